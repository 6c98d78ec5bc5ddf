/- Part of the proof that the law CustomRestsAsSpecified holds. Conditions: none. -/
import Derived.Test.YtjbhehjoaalhiaaGreatDoorPartA
import Derived.Orders
set_option linter.unusedVariables false
set_option linter.unusedSimpArgs false
set_option linter.unusedSectionVars false
namespace Go.Abs
open Go
section
variable{P:Program}{E:Env}{G G':qb}{w w':World}{fr:Fr}{ρ:Operand->Value}{H H':qa}{o:Oper}
theorem qkA{t:TypeId}{zs:List LV}(h:uS P t=some zs):∃v,(∀w:World,(zeroValue t).run P w=.ok v w)/\v.cells.size=zs.length/\zd P t=some zs.length:=by
 unfold uS at h
 split at h
 ·rename_i i hi
  split at h
  ·rename_i v hz
   split at h
   ·rename_i zs' hm
    split at h
    ·rename_i hlen
     simp at h;subst h
     obtain⟨h1,_⟩:=qfk hm
     exact⟨v,fun w=>by simp[zeroValue,Sem.run_bind,qbG hi,hz],by simpa using h1.symm,by simp[zd,hi,hlen]⟩
    ·simp at h
   ·simp at h
  ·simp at h
 ·simp at h
theorem qwT(hI:Inv G w H)(hρ:EvR E G w fr ρ){c:Call}{s x:Operand}{bs bx:BO}{t u e:TypeId}{sz:Nat}{ti:TypeInfo}{zs:List LV}(ho:o.op=.call c)
  (hcal:c.callee=.builtin .append) (hargs:c.args=#[s,x]) (hty:c.argTypes=#[t,u])
  (ht:P.underlying t=some (.slice e)) (hu:∃e',P.underlying u=some (.slice e')) (hsz:zd P e=some sz) (hti:P.info? e=some ti) (hby:ti.bytes<=2^12) (hz:uS P e=some zs)
  (hs:cO s=some bs) (hx:cO x=some bx) {es xs:List LV} {own ownx:Own} (hes:E.ev fr bs=.sl es own) (hxs:E.ev fr bx=.sl xs ownx)
  (h1:(es.all fun e=>e.cells.length==sz)=true) (h2:(xs.all fun e=>e.cells.length==sz)=true) (hbig:es.length+xs.length<=2^30) (hcan:vd H sz own es.length=true):
  (∀i,own=.tok i->vA P G w ρ o (.sl (es++xs) own) (H.put i (.tok (es.length+xs.length) sz))) /\
  (own=.full->vA P G w ρ o (.sl (es++xs) (.tok H.next)) (H.alloc (.tok (es.length+xs.length) sz))):=by
 have hS:=hρ _ _ hs
 have hX:=hρ _ _ hx
 rw[hes]at hS
 rw[hxs]at hX
 obtain⟨zv,hzv,hzs,hzsz⟩:=qkA hz
 have hzl:zs.length=sz:=by rw[hsz]at hzsz;simpa using hzsz.symm
 have yields:∀v w',(Builtin.append_ #[t,u] o.type #[ρ s,ρ x]).run P w=.ok v w'->qcU P ρ o w v w':=by
  intro v w' h
  left
  simp[execOp,ho,resolve,hcal,hargs,hty,invoke,builtin,h]
 obtain⟨base,cap,hv,hcap,hown,hb⟩:=hS.sl_inv
 obtain⟨base2,cap2,hv2,_,_,_⟩:=hX.sl_inv
 obtain⟨M,hM,hMl,hMr⟩:=qeS (P:=P) hX h2
 obtain⟨L,hL,hLl,hLr⟩:=qeS (P:=P) hS h1
 have grow:cap<es.length+xs.length->∀(t' n':Nat)(H':qa),t'<n'->G.n<=n'->n'<=H'.next->(∀i,i≠t'->look i H'.objs=look i H.objs) ->
   look t' H'.objs=some (.tok (es.length+xs.length) sz)->(t'<G.n->∃b c,G.tk t'=some (es.length,b,c))->vA P G w ρ o (.sl (es++xs) (.tok t')) H':=by
  intro hlt t' n' H' q1 q2 q3 q4 q5 q6
  have far:∀w':World,(∀k,k<w.heap.size->w'.heap[k]? = w.heap[k]?)->∀(l:List LV)(ow:Own)(val:Value)(K:List Value),VR G w (.sl l ow) val->(l.all fun e=>e.cells.length==sz)=true ->
    (Builtin.firstCells sz l.length val).run P w=.ok K.toArray w->(Builtin.firstCells sz l.length val).run P w'=.ok K.toArray w':=by
   intro w' hw l ow val K hV hall hr
   obtain⟨bb,cc,rfl,_,_,hbb⟩:=hV.sl_inv
   rcases hbb with⟨rfl,rfl,_⟩|⟨b3,off3,sz3,xs3,rfl,r1,r2,r3⟩
   ·have e0:=qfA (P:=P) (w:=w) bb sz
    rw[show ([]:List LV).length=0 from rfl,e0]at hr
    rw[show ([]:List LV).length=0 from rfl,qfA]
    simp only[Result.ok.injEq]at hr ⊢
    exact⟨hr.1,trivial⟩
   ·obtain⟨K',hK,hKl,hKc⟩:=qin hV hall
    have run:∀w2:World,(∀k,k<l.length*sz->w2.cell? (at_ b3 (off3+k))=K'[k]?)->(Builtin.firstCells sz l.length (.slice (some (at_ b3 off3)) l.length cc)).run P w2=.ok K'.toArray w2:=by
     intro w2 hw2
     refine run_firstCells_some _ _ _ _ _ _ _ hKl (fun j v hj=>?_)
     rw[qaA,hw2 j (by have:=uc hj;omega)];exact hj
    have e0:=run w (fun k hk=>(hKc k hk).2)
    rw[hr]at e0
    simp only[Result.ok.injEq,and_true]at e0
    rw[e0]
    refine run w' (fun k hk=>?_)
    have hb3:b3<w.heap.size:=by
     have:=(hKc k hk).2
     rw[List.getElem?_eq_getElem (by omega)]at this
     rcases Nat.lt_or_ge b3 w.heap.size with h|h
     ·exact h
     ·simp[World.cell?,Array.getElem?_eq_none h]at this
    rw[qaw (hw b3 hb3)]
    exact(hKc k hk).2
  rw[hv]at hLr hS
  obtain⟨newCap,rest,r1,r2,r3⟩:=qmp (P:=P) (w:=w) (ty:=o.type) (t:=t) (u:=u) (base:=base) (sLen:=es.length) (sCap:=cap) (n:=xs.length) (x:=ρ x) (L:=L) (M:=M) ht hu hsz hti hby hzv ⟨_,_,hv2⟩ hbig hlt
   (fun w' hw=>far w' hw es own _ L hS h1 hLr) (fun w' hw=>far w' hw xs ownx _ M hX h2 hMr)
  rw[hzs,hzl]at r2
  obtain⟨G',k1,k2,k3⟩:=qyf (elem:=e) hI h1 h2 hL hM hLl hMl r1 r2 q1 q2 q3 q4 q5 q6 (by omega)
  exact⟨_,_,G',yields _ _ (by rw[hv];exact r3),k1,k2,k3⟩
 have stay:es.length+xs.length<=cap->xs=[]->(Builtin.append_ #[t,u] o.type #[ρ s,ρ x]).run P w=.ok (.slice base es.length cap) w:=by
  intro hle h0
  subst h0
  have hM0:M=[]:=by simpa using hMl
  subst hM0
  rw[hv]
  rcases hb with⟨_,_,rfl|hno⟩|⟨b,off,_,_,rfl,_⟩
  ·exact qmo (n:=0) ht hu hsz ⟨_,_,hv2⟩ hle hMr
  ·subst hno;simp[vd]at hcan
  ·exact qgt (n:=0) ht hu hsz ⟨_,_,hv2⟩ hle hMr rfl
 constructor
 ·intro i hi
  subst hi
  have hcan'':look i H.objs=some (.tok es.length sz)/\0<sz:=by
   simp only[vd]at hcan
   split at hcan
   ·rename_i m s' hl
    simp at hcan
    obtain⟨⟨e1,e2⟩,e3⟩:=hcan
    subst e1;subst e2
    exact⟨hl,Nat.pos_of_ne_zero e3⟩
   ·cases hcan
  obtain⟨hcan',hz0⟩:=hcan''
  obtain⟨hin,b0,c0,htk0,_⟩:=hI.objs i _ hcan'
  have hlp:=fun j=>wn (j:=j) (ob':=.tok (es.length+xs.length) sz) hcan'
  by_cases hlt:cap<es.length+xs.length
  ·exact grow hlt i G.n _ hin (Nat.le_refl _) hI.n (fun j hj=>by rw[hlp,if_neg hj]) (by rw[hlp,if_pos rfl]) (fun _=>⟨_,_,htk0⟩)
  ·by_cases h0:xs=[]
   ·subst h0
    refine⟨_,_,G,yields _ _ (stay (by omega) rfl),?_,Ext.refl _ _,?_⟩
    ·rw[List.append_nil,<-hv];exact hS
    ·show Inv G w (H.put i (.tok es.length sz))
     refine⟨hI.n,hI.hB,hI.free,hI.old,fun j x hj=>?_⟩
     rw[wn hcan']at hj
     by_cases hji:j=i
     ·subst hji
      rw[if_pos rfl]at hj
      simp at hj;subst hj
      exact⟨hin,(hI.objs j _ hcan').2⟩
     ·rw[if_neg hji]at hj
      obtain⟨q1,q2⟩:=hI.objs j x hj
      refine⟨q1,q2.keep (Ext.refl _ _) ⟨fun k vs el fz h=>⟨vs,h,rfl,fun _ _=>rfl⟩,fun _ _ h _ _=>h⟩ q1 (W:=fun _ _=>False) (V:=fun _=>False) (fun _ _ _ h=>h) (fun _ h=>h) (fun _ _=>⟨fun h=>h,fun h=>h⟩) rfl ?_ ?_⟩
      ·intro m _ _ _ _ _ _ es' he'
       rw[wn hcan']at he'
       by_cases hmi:m=i
       ·rw[if_pos hmi]at he';cases he'
       ·rw[if_neg hmi]at he';exact⟨es',he',Nat.le_refl _⟩
      ·intro m _ _ _ _ _ _ _ es' he' hn' ents' clock' hh'
       rw[wn hcan']at he'
       by_cases hmi:m=i
       ·rw[if_pos hmi]at he';cases he'
       ·rw[if_neg hmi]at he';exact⟨es',ents',clock',he',hn',hh',rfl,fun _=>rfl⟩
   ·have hpos:0<xs.length:=List.length_pos_iff.2 h0
    rcases hb with⟨rfl,rfl,_⟩|⟨b,off,_,_,rfl,_⟩
    ·simp at hlt;exact absurd hlt h0
    ·rw[hv]at hS
     obtain⟨r1,r2,G',r3,r4,r5⟩:=qyg hI h1 h2 hS hM hMl (by omega) hcan' hpos hz0
     have hst:=run_storeCells_cells (P:=P) b (off+es.length*sz) M 0 w (by simpa using r1) (by simpa using r2) (fun v hv=>by
      obtain⟨k,hk,he⟩:=List.getElem_of_mem hv
      have hflat:=qem (qdF h2)
      have hk2:k<(zX xs).length:=by omega
      have:=(hM.2 k _ (List.getElem?_eq_getElem hk2)).2
      simpa [<-he,hk] using this)
     refine⟨_,_,G',yields _ _ ?_,r3,r4,r5⟩
     rw[hv]
     exact qgt ht hu hsz ⟨_,_,hv2⟩ (by omega) hMr hst
 ·intro hf
  subst hf
  have hce:cap=es.length:=hown
  by_cases hlt:cap<es.length+xs.length
  ·exact grow hlt H.next (H.next+1) _ (by omega) (by have:=hI.n;omega) (Nat.le_refl _) (fun j hj=>qbm hj) qfl (fun h=>by have:=hI.n;omega)
  ·have h0:xs=[]:=by
    cases xs with
    |nil=>rfl
    |cons a b=>simp at hlt;omega
   subst h0
   let G':=G.app H.next (H.next+1) es.length base cap G.own
   have hnn:=hI.n
   have hx:Ext G w G' w:=⟨rfl,rfl,rfl,Nat.le_refl _,rfl,fun _ _=>rfl,by simp[G',qb.app];omega,fun _ _=>rfl,fun _ _=>rfl,fun _ _ h=>⟨h,fun _ h=>h⟩,
    fun i hi m b c hm=>⟨m,b,c,by simp only[G',qb.app];rw[if_neg (by omega)];exact hm,Nat.le_refl _,fun _=>⟨rfl,rfl⟩⟩,rfl⟩
   refine⟨_,_,G',yields _ _ (stay (by omega) rfl),?_,hx,?_⟩
   ·rw[List.append_nil]
    have hS':=hS.mono hx
    rw[hv]at hS'
    have own2:vm G' (.tok H.next) base es.length cap:=⟨by simp[G',qb.app],es.length,base,cap,by simp[G',qb.app],Nat.le_refl _,fun _=>⟨rfl,rfl⟩⟩
    cases hS' with
    |sl a1 a2 a3 a4 a5=>exact .sl a1 a2 a3 a4 own2
    |sln a1=>exact .sln own2
   ·refine Inv.step (fun i=>i=H.next) hI hx (W:=fun _ _=>False) (V:=fun _=>False) ⟨fun k vs el fz h=>⟨vs,h,rfl,fun _ _=>rfl⟩,fun _ _ h _ _=>h⟩ (Nat.le_refl _) hI.free hI.old
     (fun i x hi h=>by rw[qbm hi]at h;exact h) (fun _ _ _ _ _ h=>h) (fun _ _ _ h=>h) (fun _ _ _ _=>⟨fun h=>h,fun h=>h⟩) (fun i hi _=>by simp only[G',qb.app];rw[if_neg (by omega)]) ?_ ?_
    ·intro m es' hmn hm
     rw[qbm (by omega)]at hm
     exact⟨es',hm,Nat.le_refl _,fun _ ents' clock' hh=>⟨ents',clock',hh,rfl,fun _=>rfl⟩⟩
    ·intro i x hi h
     subst hi
     rw[qfl]at h
     simp at h;subst h
     exact⟨by simp[G',qb.app],base,cap,by simp[G',qb.app],by omega,fun h=>by omega⟩
end
end Go.Abs
namespace Go.Abs
open Go
section
variable{P:Program}{E:Env}{G G':qb}{w w':World}{fr:Fr}{ρ:Operand->Value}{H H':qa}{o:Oper}
theorem qmm{t:TypeId}{k:Nat}{X Y:LV}{u v:Value}{b:Bool}{d:Nat}(hk:wm P t=some k)(h:eqB k X Y=some b)(hX:VR G w X u)(hY:VR G w Y v):
  (Op.equalIn (d+1) t u v).run P w=.ok b w:=by
 unfold eqB at h
 split at h
 ·obtain rfl:=hX.sc_inv
  obtain rfl:=hY.sc_inv
  split at h
  ·rename_i hkk
   subst hkk
   simp at h;subst h
   unfold wm at hk
   split at hk<;>simp at hk
   rename_i kk hu
   exact run_equalIn_int w d t _ kk _ _ hu
  ·cases h
 ·obtain rfl:=hX.sc_inv
  obtain rfl:=hY.sc_inv
  simp at h;subst h
  unfold wm at hk
  split at hk<;>simp at hk
  rename_i hu
  exact run_equalIn_string w d t _ _ hu
 ·obtain rfl:=hX.sc_inv
  obtain rfl:=hY.sc_inv
  simp at h;subst h
  unfold wm at hk
  split at hk<;>simp at hk
  rename_i hu
  exact run_equalIn_bool' w d t _ _ hu
 ·cases h
theorem qiY{t:TypeId}{k:Nat}(hk:wm P t=some k)(hs:zd P t=some 1):nO P t=some none:=by
 have:qdG P t=some false:=by
  unfold wm at hk
  unfold qdG
  split at hk<;>simp at hk<;>rename_i hu<;>simp[hu]
 simp[nO,hs,this]
theorem qml{d:Nat}{xs ys:List LV}{us vs:Array Value}(hus:us.size=xs.length)(hvs:vs.size=ys.length)
  (h1:∀(i:Nat)(c:LV),xs[i]? = some c->VR G w c (us.getD i undef)) (h2:∀i,i<xs.length->(us.getD i undef).oneCell'=true)
  (h3:∀(i:Nat)(c:LV),ys[i]? = some c->VR G w c (vs.getD i undef)) (h4:∀i,i<ys.length->(vs.getD i undef).oneCell'=true):
  ∀(fs:List Field)(i:Nat)(ks:List Nat)(b:Bool),qcM P i fs=some ks->eqL ks (xs.drop i) (ys.drop i)=some b ->
   (Op.eqFields (d+1) us vs fs).run P w=.ok b w
 |[],i,ks,b,hf,he=>by
  simp[qcM]at hf
  subst hf
  unfold eqL at he
  split at he<;>simp_all [Op.eqFields]
 |f::r,i,ks,b,hf,he=>by
  simp only[qcM,Option.ite_none_right_eq_some]at hf
  obtain⟨⟨ho,hn,hs⟩,hf⟩:=hf
  split at hf
  ·rename_i k ks' hk hr
   simp at hf;subst hf
   unfold eqL at he
   split at he
   ·rename_i heq _ _;simp at heq
   ·rename_i k' ks'' a as b' bs heq hxs hys
    simp at heq
    obtain⟨rfl,rfl⟩:=heq
    split at he
    ·rename_i p q hp hq
     simp at he;subst he
     have hxi:xs[i]? = some a:=by rw[<-List.head?_drop,hxs];rfl
     have hyi:ys[i]? = some b':=by rw[<-List.head?_drop,hys];rfl
     have hxd:xs.drop (i+1)=as:=by rw[<-List.drop_drop,hxs];rfl
     have hyd:ys.drop (i+1)=bs:=by rw[<-List.drop_drop,hys];rfl
     obtain⟨u,hu,hU⟩:=qeU (P:=P) (off:=f.offset) (qiY hk hs) hus h1 h2 (show zb xs f.offset none=some a by rw[ho];exact hxi)
     obtain⟨v,hv,hV⟩:=qeU (P:=P) (off:=f.offset) (qiY hk hs) hvs h3 h4 (show zb ys f.offset none=some b' by rw[ho];exact hyi)
     have he:=qmm (d:=d) hk hp hU hV
     have ih:=qml (d:=d) hus hvs h1 h2 h3 h4 r (i+1) ks' q hr (by rw[hxd,hyd];exact hq)
     simp only[Op.eqFields,hn,ne_eq,not_false_eq_true,if_true,Sem.run_bind,hu,hv,Result.andThen_ok,he]
     cases p
     ·simp
     ·simp[ih]
    ·cases he
   ·cases he
  ·cases hf
theorem qmn{t:TypeId}{fs:Array Field}{ks:List Nat}{xs ys:List LV}{u v:Value}{b:Bool}(ht:P.underlying t=some (.struct fs))(hf:qdv P fs t=some ks)
  (h:eqL ks xs ys=some b) (hX:VR G w (.agg xs) u) (hY:VR G w (.agg ys) v) (d:Nat):(Op.equalIn (d+2) t u v).run P w=.ok b w:=by
 obtain⟨us,rfl,hus,h1,h2⟩:=hX.agg_inv
 obtain⟨vs,rfl,hvs,h3,h4⟩:=hY.agg_inv
 unfold qdv at hf
 split at hf
 ·cases hf
 ·rename_i hp
  have hfo:P.fieldsOf t=fs:=by simp[Program.fieldsOf,ht]
  rw[run_equalIn_struct w (d+1) t us vs (by rw[hfo];exact ht) (by simpa using hp),hfo]
  exact qml hus hvs h1 h2 h3 h4 fs.toList 0 ks b hf (by simpa using h)
theorem qir{op:BinOp}{t:TypeId}{x y:Operand}{u v:Value}(h1:u=.nilIface->v=.nilIface->((∃c,x=.const c)\/∃c,y=.const c))
  (h2:∀a b,u=.agg a->v=.agg b->P.eqGuardType P.depth t=false):(eqGuard op t x y u v).run P w=.ok () w:=by
 unfold eqGuard
 cases op<;>simp only[Bool.not_false,Bool.not_true,Bool.false_eq_true,if_true,if_false,Sem.run_pure]
 all_goals
  split
  ·rcases h1 rfl rfl with⟨c,rfl⟩|⟨c,rfl⟩
   ·rfl
   ·cases x<;>rfl
  ·rename_i a b
   simp[Sem.run_bind,h2 a b rfl rfl]
  ·rfl
theorem qpd(d:Nat){t ka ea:TypeId}(hu:P.underlying t=some (.map ka ea))(a:Option Nat):(Op.equalIn (d+1) t (.map none) (.map a)).run P w=.ok a.isNone w:=by
 simp only[Op.equalIn,Sem.run_bind,run_underlying hu,Result.andThen_ok];rfl
theorem qwx(d:Nat){t ka ea:TypeId}(hu:P.underlying t=some (.map ka ea))(a:Nat):(Op.equalIn (d+1) t (.map (some a)) (.map none)).run P w=.ok false w:=by
 simp only[Op.equalIn,Sem.run_bind,run_underlying hu,Result.andThen_ok];rfl
theorem qwC(d:Nat){t:TypeId}{ps rs:Array TypeId}{va:Bool}(hu:P.underlying t=some (.func ps rs va))(f:Fn)(a b:Array Value):(Op.equalIn (d+1) t (.func f a b) .nilFunc).run P w=.ok false w:=by
 simp only[Op.equalIn,Sem.run_bind,run_underlying hu,Result.andThen_ok];rfl
theorem qwB(d:Nat){t:TypeId}{ps rs:Array TypeId}{va:Bool}(hu:P.underlying t=some (.func ps rs va))(f:Fn)(a b:Array Value):(Op.equalIn (d+1) t .nilFunc (.func f a b)).run P w=.ok false w:=by
 simp only[Op.equalIn,Sem.run_bind,run_underlying hu,Result.andThen_ok];rfl
theorem qwA(d:Nat){t:TypeId}{ms:Array (String×TypeId)}(hu:P.underlying t=some (.interface ms))(u:TypeId)(a:Value):(Op.equalIn (d+1) t (.iface u a) .nilIface).run P w=.ok false w:=by
 simp only[Op.equalIn,Sem.run_bind,run_underlying hu,Result.andThen_ok];rfl
theorem qwz(d:Nat){t:TypeId}{ms:Array (String×TypeId)}(hu:P.underlying t=some (.interface ms))(u:TypeId)(a:Value):(Op.equalIn (d+1) t .nilIface (.iface u a)).run P w=.ok false w:=by
 simp only[Op.equalIn,Sem.run_bind,run_underlying hu,Result.andThen_ok];rfl
theorem qwy(d:Nat){t:TypeId}{ms:Array (String×TypeId)}(hu:P.underlying t=some (.interface ms)):(Op.equalIn (d+1) t .nilIface .nilIface).run P w=.ok true w:=by
 simp only[Op.equalIn,Sem.run_bind,run_underlying hu,Result.andThen_ok];rfl
theorem qww(d:Nat){t e:TypeId}(hu:P.underlying t=some (.slice e))(a:Addr)(n c:Nat):(Op.equalIn (d+1) t (.slice (some a) n c) (.slice none 0 0)).run P w=.ok false w:=by
 simp only[Op.equalIn,Sem.run_bind,run_underlying hu,Result.andThen_ok];rfl
theorem qau(hI:Inv G w H){neg:Bool}{t t':TypeId}{x y:Operand}{b:Bool}(ho:o.op=.binOp (if neg then .neq else .eql) t x y t')
  (h1:(eqGuard (if neg then .neq else .eql) t x y (ρ x) (ρ y)).run P w=.ok () w) (h2:(binOp (if neg then .neq else .eql) t (ρ x) (ρ y)).run P w=.ok (.bool (b != neg)) w):zj P G w H ρ o (.bool (b != neg)):=by
 refine .here hI (v:=.bool (b != neg)) ?_ (.sc _)
 simp[execOp,ho,Sem.run_bind,h1,h2]
theorem qbf{neg:Bool}{t:TypeId}{u v:Value}{b:Bool}(hi:∀k m k' n,u=.int k m->v=.int k' n->False)(hs:∀s r,u=.string s->v=.string r->False)
  (hf:∀k m k' n,u=.float k m->v=.float k' n->False) (hc:∀k m m' k' n n',u=.complex k m m'->v=.complex k' n n'->False)
  (h:(Op.equal t u v).run P w=.ok b w):(binOp (if neg then .neq else .eql) t u v).run P w=.ok (.bool (b != neg)) w:=by
 cases neg
 ·have e:binOp .eql t u v=(do pure (.bool (<- Op.equal t u v))):=by
   cases u<;>cases v<;>first|rfl|exact(hi _ _ _ _ rfl rfl).elim|exact(hs _ _ rfl rfl).elim|exact(hf _ _ _ _ rfl rfl).elim|exact(hc _ _ _ _ _ _ rfl rfl).elim
  simp[e,h]
 ·have e:binOp .neq t u v=(do pure (.bool (!(<- Op.equal t u v)))):=by
   cases u<;>cases v<;>first|rfl|exact(hi _ _ _ _ rfl rfl).elim|exact(hs _ _ rfl rfl).elim|exact(hf _ _ _ _ rfl rfl).elim|exact(hc _ _ _ _ _ _ rfl rfl).elim
  simp[e,h]
theorem qkO(hI:Inv G w H)(hρ:EvR E G w fr ρ){neg:Bool}{t t':TypeId}{x y:Operand}{bx b2:BO}{k:EqK}(ho:o.op=.binOp (if neg then .neq else .eql) t x y t')
  (hx:cO x=some bx) (hy:cO y=some b2) (hfit:qfD P t x y=true) (hk:qhn P t=some k) {b:Bool} (h:eqK k (E.ev fr bx) (E.ev fr b2)=some b) (hρc:∀v,ρ (.const v)=v):
  zj P G w H ρ o (.bool (b != neg)):=by
 have hX:=hρ _ _ hx
 have hY:=hρ _ _ hy
 have guard:(ρ x≠.nilIface\/ρ y≠.nilIface)->((∀a,ρ x≠.agg a)\/∀a,ρ y≠.agg a)->(eqGuard (if neg then .neq else .eql) t x y (ρ x) (ρ y)).run P w=.ok () w:=by
  intro h1 h2
  exact qir (fun e1 e2=>by rcases h1 with h|h<;>contradiction) (fun a b e1 e2=>by rcases h2 with h|h<;>exact absurd (by assumption) (h _))
 unfold qhn at hk
 split at hk
 ·
  rename_i kk hu
  simp at hk;subst hk
  simp only[eqK]at h
  unfold eqB at h
  split at h
  ·rename_i k1 a k2 c he1 he2
   rw[he1]at hX;rw[he2]at hY
   have e1:=hX.sc_inv
   have e2:=hY.sc_inv
   split at h
   ·rename_i hkk
    subst hkk
    simp at h;subst h
    refine qau hI ho (guard (.inl (by rw[e1];simp)) (.inl (by rw[e1];simp))) ?_
    rw[e1,e2]
    cases neg<;>simp[binOp,Op.intCmp,go_sem,bne]
   ·cases h
  all_goals simp_all
 ·rename_i hu
  simp at hk;subst hk
  simp only[eqK]at h
  unfold eqB at h
  split at h
  ·simp_all
  ·rename_i a c he1 he2
   rw[he1]at hX;rw[he2]at hY
   have e1:=hX.sc_inv
   have e2:=hY.sc_inv
   simp at h;subst h
   refine qau hI ho (guard (.inl (by rw[e1];simp)) (.inl (by rw[e1];simp))) ?_
   rw[e1,e2]
   cases neg<;>simp[binOp,Op.stringOp,go_sem,bne]
  all_goals simp_all
 ·rename_i hu
  simp at hk;subst hk
  simp only[eqK]at h
  have h0:=h
  unfold eqB at h
  split at h
  ·simp_all
  ·simp_all
  ·rename_i a c he1 he2
   rw[he1]at hX;rw[he2]at hY
   have e1:=hX.sc_inv
   have e2:=hY.sc_inv
   rw[he1,he2]at h0
   refine qau hI ho (guard (.inl (by rw[e1];simp)) (.inl (by rw[e1];simp))) (qbf (by rw[e1];simp) (by rw[e1];simp) (by rw[e1];simp) (by rw[e1];simp) ?_)
   exact qmm (d:=9999) (k:=2) (by simp[wm,hu]) h0 hX hY
  ·cases h
 ·
  rename_i ka ea hu
  simp at hk;subst hk
  unfold eqK at h
  split at h<;>simp at*<;> try contradiction
  ·rename_i m he1 he2 _
   rw[he1]at hX;rw[he2]at hY
   obtain⟨_,e1⟩:=hX.map_inv
   have e2:=hY.sc_inv
   subst h
   refine qau (b:=false) hI ho (guard (.inl (by rw[e1];simp)) (.inl (by rw[e1];simp))) (qbf (by rw[e1];simp) (by rw[e1];simp) (by rw[e1];simp) (by rw[e1];simp) ?_)
   rw[e1,e2];exact qwx 9999 hu _
  ·rename_i m he1 he2 _
   rw[he1]at hX;rw[he2]at hY
   obtain⟨_,e2⟩:=hY.map_inv
   have e1:=hX.sc_inv
   subst h
   refine qau (b:=false) hI ho (guard (.inl (by rw[e1];simp)) (.inl (by rw[e1];simp))) (qbf (by rw[e1];simp) (by rw[e1];simp) (by rw[e1];simp) (by rw[e1];simp) ?_)
   rw[e1,e2];exact qpd 9999 hu _
  ·have he1:E.ev fr bx=.sc (.map none):=by assumption
   have he2:E.ev fr b2=.sc (.map none):=by assumption
   rw[he1]at hX;rw[he2]at hY
   have e2:=hY.sc_inv
   have e1:=hX.sc_inv
   subst h
   refine qau (b:=true) hI ho (guard (.inl (by rw[e1];simp)) (.inl (by rw[e1];simp))) (qbf (by rw[e1];simp) (by rw[e1];simp) (by rw[e1];simp) (by rw[e1];simp) ?_)
   rw[e1,e2];exact qpd 9999 hu _
 ·
  rename_i pa ra va hu
  simp at hk;subst hk
  unfold eqK at h
  split at h<;>simp at*<;> try contradiction
  ·rename_i f fa fc he1 he2 _
   rw[he1]at hX;rw[he2]at hY
   obtain⟨_,_,e1,_⟩:=hX.fn_inv
   have e2:=hY.sc_inv
   subst h
   refine qau (b:=false) hI ho (guard (.inl (by rw[e1];simp)) (.inl (by rw[e1];simp))) (qbf (by rw[e1];simp) (by rw[e1];simp) (by rw[e1];simp) (by rw[e1];simp) ?_)
   rw[e1,e2];exact qwC 9999 hu _ _ _
  ·rename_i f fa fc he1 he2 _
   rw[he1]at hX;rw[he2]at hY
   obtain⟨_,_,e2,_⟩:=hY.fn_inv
   have e1:=hX.sc_inv
   subst h
   refine qau (b:=false) hI ho (guard (.inl (by rw[e1];simp)) (.inl (by rw[e1];simp))) (qbf (by rw[e1];simp) (by rw[e1];simp) (by rw[e1];simp) (by rw[e1];simp) ?_)
   rw[e1,e2];exact qwB 9999 hu _ _ _
 ·
  rename_i ms hu
  simp at hk;subst hk
  have hfit':(∃c,x=.const c)\/∃c,y=.const c:=by
   unfold qfD at hfit
   rw[hu]at hfit
   simp only[Bool.or_eq_true]at hfit
   rcases hfit with h|h
   ·left;cases x<;>simp at h;exact⟨_,rfl⟩
   ·right;cases y<;>simp at h;exact⟨_,rfl⟩
  have guard2:((∀a,ρ x≠.agg a)\/∀a,ρ y≠.agg a)->(eqGuard (if neg then .neq else .eql) t x y (ρ x) (ρ y)).run P w=.ok () w:=by
   intro h2
   exact qir (fun _ _=>hfit') (fun a b e1 e2=>by rcases h2 with h|h<;>exact absurd (by assumption) (h _))
  unfold eqK at h
  split at h<;>simp at*<;> try contradiction
  ·rename_i f fa he1 he2 _
   rw[he1]at hX;rw[he2]at hY
   obtain⟨_,e1,_⟩:=hX.iface_inv
   have e2:=hY.sc_inv
   subst h
   refine qau (b:=false) hI ho (guard2 (.inl (by rw[e1];simp))) (qbf (by rw[e1];simp) (by rw[e1];simp) (by rw[e1];simp) (by rw[e1];simp) ?_)
   rw[e1,e2];exact qwA 9999 hu _ _
  ·rename_i f fa he1 he2 _
   rw[he1]at hX;rw[he2]at hY
   obtain⟨_,e2,_⟩:=hY.iface_inv
   have e1:=hX.sc_inv
   subst h
   refine qau (b:=false) hI ho (guard2 (.inl (by rw[e1];simp))) (qbf (by rw[e1];simp) (by rw[e1];simp) (by rw[e1];simp) (by rw[e1];simp) ?_)
   rw[e1,e2];exact qwz 9999 hu _ _
  ·have he1:E.ev fr bx=.sc .nilIface:=by assumption
   have he2:E.ev fr b2=.sc .nilIface:=by assumption
   rw[he1]at hX;rw[he2]at hY
   have e2:=hY.sc_inv
   have e1:=hX.sc_inv
   subst h
   refine qau (b:=true) hI ho (guard2 (.inl (by rw[e1];simp))) (qbf (by rw[e1];simp) (by rw[e1];simp) (by rw[e1];simp) (by rw[e1];simp) ?_)
   rw[e1,e2];exact qwy 9999 hu
 ·
  rename_i se hu
  simp at hk;subst hk
  have hfit':y=.const (.slice none 0 0):=by
   unfold qfD at hfit
   rw[hu]at hfit
   simp only at hfit
   split at hfit
   ·rfl
   ·cases hfit
  subst hfit'
  have e2:ρ (.const (.slice none 0 0))=.slice none 0 0:=hρc _
  unfold eqK at h
  split at h<;>simp at*<;> try contradiction
  rename_i es0 es own he1 he2 _
  rw[he1]at hX
  obtain⟨base,cap,e1,_,_,hc⟩:=hX.sl_inv
  rcases hc with⟨h0,_⟩|⟨bb,off,_,_,rfl,_⟩
  ·cases h0
  subst h
  refine qau (b:=false) hI ho (guard (.inl (by rw[e1];simp)) (.inl (by rw[e1];simp))) (qbf (by rw[e1];simp) (by rw[e1];simp) (by rw[e1];simp) (by rw[e1];simp) ?_)
  rw[e1,e2]
  exact qww 9999 hu _ _ _
 ·
  rename_i fs hu
  split at hk
  ·cases hk
  ·rename_i hg
   obtain⟨ks,hks,rfl⟩:=Option.map_eq_some_iff.1 hk
   unfold eqK at h
   split at h<;>simp at*<;> try contradiction
   rename_i ks' xs ys _ _ _
   have he1:E.ev fr bx=.agg xs:=by assumption
   have he2:E.ev fr b2=.agg ys:=by assumption
   have hkk:ks=ks':=by assumption
   subst hkk
   rw[he1]at hX;rw[he2]at hY
   obtain⟨us,e1,_⟩:=hX.agg_inv
   refine qau hI ho (qir (fun e=>by rw[e1]at e;cases e) (fun _ _ _ _=>hg)) (qbf (by rw[e1];simp) (by rw[e1];simp) (by rw[e1];simp) (by rw[e1];simp) ?_)
   exact qmn hu hks h hX hY 9998
 ·cases hk
end
end Go.Abs
namespace Go.Abs
open Go
section
variable{P:Program}{E:Env}{G G':qb}{w w':World}{fr:Fr}{ρ:Operand->Value}{H H':qa}{o:Oper}
theorem qiS(hρ:EvR E G w fr ρ){place:Nat->Option (Nat×Nat)}:∀(ps:List (Nat×Operand))(bps:List (Nat×Nat×BO)),
  (∀(k:Nat)(p:Nat×Operand)(q:Nat×Nat×BO),ps[k]? = some p->bps[k]? = some q->place p.1=some (q.1,q.2.1)/\cO p.2=some q.2.2)->ps.length=bps.length ->
  qez G w place (bps.map fun q=>(q.1,q.2.1,E.ev fr q.2.2)) (ps.map fun p=>(p.1,ρ p.2))
 |[],[],_,_=>trivial
 |p::ps,q::bps,h,hl=>by
  obtain⟨h1,h2⟩:=h 0 p q rfl rfl
  refine⟨h1,hρ _ _ h2,qiS hρ ps bps (fun k p q hp hq=>h (k+1) p q (by simpa using hp) (by simpa using hq)) (by simpa using hl)⟩
 |[],_::_,_,hl=>by simp at hl
 |_::_,[],_,hl=>by simp at hl
theorem Inv.claim(hI:Inv G w H)(vs:Array Value)(el:TypeId):
  ∃G',Ext G w G' (w.alloc (.cells vs el))/\Inv G' (w.alloc (.cells vs el)) H/\∀x,G'.Cl w.heap.size x:=by
 let G':qb:=⟨G.B,G.n,G.loc,G.asz,G.tk,fun b x=>if b=w.heap.size then .cl else G.own b x,G.rc⟩
 have hg:qfV G w.heap.size G':=⟨rfl,Nat.le_refl _,fun _ _=>rfl,fun _ _=>rfl,fun _ _=>rfl,fun b x hb=>by simp only[G',if_neg hb],rfl⟩
 refine⟨G',hI.ext_fresh _ hg,hI.fresh _ hg hI.n (fun _ _=>rfl) (fun i x hi hl=>?_),fun x=>.inr (by simp only[G',if_true])⟩
 have:=(hI.objs i x hl).1
 omega
theorem qre(hI:Inv G w H)(hρ:EvR E G w fr ρ){t e:TypeId}{n s:Nat}{ps:Array (Nat×Operand)}{bl:List BO}{zs:List LV}(ho:o.op=.buildSlice t n ps)
  (ht:P.underlying t=some (.slice e)) (hs:zd P e=some s) (hn:ps.size=n) (hbig:n*s<=2^24) (hord:qfc 0 ps.toList=true) (hz:uS P e=some zs) (hpos:0<s)
  (hbl:ps.toList.mapM (fun p=>cO p.2)=some bl) (hall:(bl.all fun p=>(E.ev fr p).cells.length==s&&(E.ev fr p).whole)=true):
  zj P G w H ρ o (.sl (bl.map (E.ev fr)) .full):=by
 obtain⟨zv,hzv,hA0,hzsz,_⟩:=qeG (G:=G) (w:=w) hz
 have hzl:zs.length=s:=by rw[hs]at hzsz;simpa using hzsz.symm
 have hbl2:=qnA (l:=ps.toList.map (·.2)) (bl:=bl) (by rw[List.mapM_map];exact hbl)
 have hbll:bl.length=n:=by rw[hbl2.1];simp[hn]
 let vals:=bl.map (E.ev fr)
 have hvl:vals.length=n:=by simp[vals,hbll]
 have hvx:∀x,x∈vals->x.cells.length=s/\x.whole=true:=by
  intro x hx
  simp only[vals,List.mem_map]at hx
  obtain⟨b,hb,rfl⟩:=hx
  rw[List.all_eq_true]at hall
  have:=hall b hb
  simp only[Bool.and_eq_true,beq_iff_eq]at this
  exact this
 have hu:∀(i:Nat)(e:LV),vals[i]? = some e->e.cells.length=s:=fun i e he=>(hvx e (List.mem_of_getElem? he)).1
 let Z:List LV:=(List.range (n*s)).map fun i=>zs.getD (i % zs.length) .bot
 let zero:Array Value:=if n*s=0 then #[] else zv.cells
 have hZ:AR G w Z ((Array.range (n*s)).map (zero[· % zero.size]!)):=by
  refine⟨by simp[Z],fun i c hc=>?_⟩
  have hi:=uc hc
  simp[Z]at hi
  have hne:n*s≠0:=by omega
  have hzero:zero=zv.cells:=by simp[zero,hne]
  have hzsize:zv.cells.size=zs.length:=hA0.1
  have hmod:i % zs.length<zs.length:=Nat.mod_lt _ (by omega)
  have hc':c=zs[i % zs.length]:=by
   simp[Z,List.getElem?_eq_getElem,hi,List.getD_eq_getElem?_getD,hmod]at hc
   exact hc.symm
  have:=hA0.2 (i % zs.length) _ (List.getElem?_eq_getElem hmod)
  rw[hc']
  have e1:((Array.range (n*s)).map (zero[· % zero.size]!)).getD i undef=zv.cells.getD (i % zs.length) undef:=by
   rw[hzero,hzsize]
   simp[Array.getD_eq_getD_getElem?,hi,getElem!_def]
   rw[Array.getElem?_eq_getElem (by omega)]
   rfl
  rw[e1];exact this
 have hfl:=qoZ vals s 0 [] Z (by simp) (by simp[Z,hvl]) hvx
 simp only[List.nil_append,Nat.zero_add]at hfl
 have hP:qez G w (fun i=>some (i*s,s)) (vals.mapIdx fun i x=>(i*s,s,x)) (ps.toList.map fun p=>(p.1,ρ p.2)):=by
  have hbps:vals.mapIdx (fun i x=>(i*s,s,x))=(bl.mapIdx fun i b=>(i*s,s,b)).map fun q=>(q.1,q.2.1,E.ev fr q.2.2):=by
   apply List.ext_getElem?
   intro i
   simp[vals,List.getElem?_mapIdx]
   cases bl[i]?<;>rfl
  rw[hbps]
  refine qiS hρ _ _ (fun k p q hp hq=>?_) (by simp[hbll,hn])
  rw[List.getElem?_mapIdx]at hq
  obtain⟨b,hb,rfl⟩:=Option.map_eq_some_iff.1 hq
  obtain⟨x,hx,hcx⟩:=hbl2.2 k b hb
  rw[List.getElem?_map,hp]at hx
  simp at hx;subst hx
  have:=qnh _ _ hord k p hp
  simp at this
  exact⟨by rw[this],hcx⟩
 obtain⟨cells,hfill,hcells⟩:=qjJ _ _ _ _ _ hP hZ hfl
 obtain⟨G',hx,hI',hcl⟩:=hI.claim cells e
 refine⟨.slice (some (at_ w.heap.size 0)) n n,_,G',.inl ?_,?_,hx,hI'⟩
 ·have hpm:(ps.map fun x=>(x.1,ρ x.2)).toList=ps.toList.map fun p=>(p.1,ρ p.2):=by simp
  have hnb:¬n*s > 2^24:=by omega
  have hrun:(Instr.buildSlice t n (ps.map fun x=>(x.1,ρ x.2))).run P w=.ok (.slice (some (at_ w.heap.size 0)) n n) (w.alloc (.cells cells e)):=by
   simp only[Instr.buildSlice,Sem.run_bind,run_underlying ht,Result.andThen_ok,wh hs,if_neg hnb]
   by_cases h0:n*s=0
   ·have hz0:zero=#[]:=by simp[zero,h0]
    rw[hz0]at hfill
    have hn0:n=0:=by
     rcases Nat.mul_eq_zero.1 h0 with h|h
     ·exact h
     ·omega
    subst hn0
    have hps:ps=#[]:=by
     apply Array.eq_empty_of_size_eq_zero;exact hn
    subst hps
    simp[Instr.fill]at hfill
    subst hfill
    simp[Instr.fill,Sem.run_bind,newRow]
   ·have hz0:zero=zv.cells:=by simp[zero,h0]
    rw[hz0]at hfill
    simp only[h0,if_false,Sem.run_bind,hzv,Sem.run_pure,Result.andThen_ok,hpm]
    rw[hfill]
    rfl
  simp[execOp,ho,Sem.run_bind,hrun]
 ·have:=qio (G:=G') (w:=w.alloc (.cells cells e)) (es:=vals) (own:=.full) (b:=w.heap.size) (off:=0) (sz:=s) (cap:=vals.length) (cs:=cells) (vs:=cells) hu (Nat.le_refl _) heap_alloc_new
   ⟨hcells.1,fun i c hc=>⟨(hcells.2 i c hc).1.mono hx,(hcells.2 i c hc).2⟩⟩ (fun k _=>by rw[Nat.zero_add]) (fun k _=>hcl _) rfl
  rwa [hvl]at this
theorem qkP(hI:Inv G w H)(hρ:EvR E G w fr ρ){t:TypeId}{ps:Array (Nat×Operand)}{zs cs:List LV}{bps:List (Nat×Nat×BO)}{place:Nat->Option (Nat×Nat)}
  (ho:o.op=.build t ps) (hz:uS P t=some zs) (hlen:ps.size=bps.length)
  (hpl:∀(k:Nat)(p:Nat×Operand)(q:Nat×Nat×BO),ps.toList[k]? = some p->bps[k]? = some q->place p.1=some (q.1,q.2.1)/\cO p.2=some q.2.2)
  (hrun:∀(zv:Value)(cells:Array Value),(zeroValue t).run P w=.ok zv w->Instr.fill place zv.cells (ps.toList.map fun p=>(p.1,ρ p.2))=some cells->(Instr.build t (ps.map fun x=>(x.1,ρ x.2))).run P w=.ok (.agg cells) w)
  (hf:zF zs (bps.map fun q=>(q.1,q.2.1,E.ev fr q.2.2))=some cs):zj P G w H ρ o (.agg cs):=by
 obtain⟨zv,hzv,hA0,_,_⟩:=qeG (G:=G) (w:=w) hz
 obtain⟨cells,hfill,hcells⟩:=qjJ _ _ _ _ _ (qiS hρ _ _ hpl (by simpa using hlen)) hA0 hf
 refine .here hI (v:=.agg cells) ?_ hcells.agg
 simp[execOp,ho,Sem.run_bind,hrun zv cells hzv hfill]
end
end Go.Abs
namespace Go.Abs
open Go
section
variable{P:Program}{E:Env}{G G':qb}{w w':World}{fr:Fr}{ρ:Operand->Value}{H H':qa}{o:Oper}
theorem qpO{t:TypeId}{k:Nat}(hk:wm P t=some k)(b:Bool)(n:Nat)(v:Value):(Instr.checkKey b (n+1) t v).run P w=.ok () w:=by
 unfold wm at hk
 split at hk<;>simp at hk<;>rename_i hu
 all_goals
  simp only[Instr.checkKey,Sem.run_bind,run_underlying hu,Result.andThen_ok]
  rfl
theorem qjn{t:TypeId}{e:EqK}(h:qbL P t=some e):(∃k,wm P t=some k/\e=.pl k)\/∃fs ks,P.underlying t=some (.struct fs)/\qdv P fs t=some ks/\e=.st ks:=by
 unfold qbL at h
 split at h
 ·rename_i hu;simp at h;exact .inl ⟨0,by simp[wm,hu],h.symm⟩
 ·rename_i hu;simp at h;exact .inl ⟨1,by simp[wm,hu],h.symm⟩
 ·rename_i hu;simp at h;exact .inl ⟨2,by simp[wm,hu],h.symm⟩
 ·rename_i fs hu
  obtain⟨ks,h1,h2⟩:=Option.map_eq_some_iff.1 h
  exact .inr ⟨fs,ks,hu,h1,h2.symm⟩
 ·cases h
theorem qpf:∀(ks:List Nat)(xs ys:List LV)(b:Bool),eqL ks xs ys=some b->xs.length=ks.length/\ys.length=ks.length
 |[],[],[],_,_=>⟨rfl,rfl⟩
 |k::ks,x::xs,y::ys,b,h=>by
  simp only[eqL]at h
  split at h
  ·rename_i p q hp hq
   have:=qpf ks xs ys q hq
   simp[this]
  ·cases h
 |[],[],_::_,_,h=>by simp[eqL]at h
 |[],_::_,_,_,h=>by simp[eqL]at h
 |_::_,[],_,_,h=>by simp[eqL]at h
 |_::_,_::_,[],_,h=>by simp[eqL]at h
theorem qpP{b:Bool}{n:Nat}{xs:List LV}{us:Array Value}(hus:us.size=xs.length)(h1:∀(i:Nat) (c:LV),xs[i]? = some c->VR G w c (us.getD i undef))
  (h2:∀i,i<xs.length->(us.getD i undef).oneCell'=true):∀(fs:List Field)(i:Nat)(ks:List Nat),qcM P i fs=some ks->i+ks.length<=xs.length ->
   ((forIn fs PUnit.unit fun f (_:PUnit)=>(if f.name ≠ "_" then (do
     let x <- part f.type us f.offset
     Instr.checkKey b (n+1) f.type x
     pure (ForInStep.yield PUnit.unit)) else pure (ForInStep.yield PUnit.unit):Sem (ForInStep PUnit))):Sem PUnit).run P w=.ok PUnit.unit w
 |[],i,ks,hf,hl=>by simp
 |f::r,i,ks,hf,hl=>by
  simp only[qcM,Option.ite_none_right_eq_some]at hf
  obtain⟨⟨ho,hn,hs⟩,hf⟩:=hf
  split at hf
  ·rename_i k ks' hk hr
   simp at hf;subst hf
   simp at hl
   have hi:i<xs.length:=by omega
   obtain⟨u,hu,hU⟩:=qeU (P:=P) (off:=f.offset) (qiY hk hs) hus h1 h2 (show zb xs f.offset none=some xs[i] by rw[ho];exact List.getElem?_eq_getElem hi)
   have ih:=qpP (b:=b) (n:=n) hus h1 h2 r (i+1) ks' hr (by omega)
   simp only[List.forIn_cons,Sem.run_bind,hn,ne_eq,not_false_eq_true,if_true,hu,Result.andThen_ok,qpO hk,Sem.run_pure]
   exact ih
  ·cases hf
theorem qxr{t:TypeId}{fs:Array Field}{ks:List Nat}{xs:List LV}{us:Array Value}(hu:P.underlying t=some (.struct fs))(hf:qcM P 0 fs.toList=some ks)(hl:ks.length<=xs.length)
  (hus:us.size=xs.length) (h1:∀(i:Nat)(c:LV),xs[i]? = some c->VR G w c (us.getD i undef)) (h2:∀i,i<xs.length->(us.getD i undef).oneCell'=true) (b:Bool) (n:Nat):
  (Instr.checkKey b (n+2) t (.agg us)).run P w=.ok () w:=by
 have:=qpP (P:=P) (b:=b) (n:=n) hus h1 h2 fs.toList 0 ks hf (by omega)
 rw[Instr.checkKey]
 simp only[Sem.run_bind,run_underlying hu,Result.andThen_ok]
 rw[<-Array.forIn_toList]
 rw[this]
 rfl
theorem qis{t:TypeId}{e:EqK}{K:LV}{u:Value}(h:qbL P t=some e)(hK:VR G w K u)(hs:(eqK e K K).isSome=true)(b:Bool):(Instr.checkKey b 10000 t u).run P w=.ok () w:=by
 rcases qjn h with⟨k,hk,rfl⟩|⟨fs,ks,hu,hf,rfl⟩
 ·exact qpO hk b 9999 u
 ·unfold eqK at hs
  split at hs<;>simp at *
  rename_i ks' xs ys he1 he2
  have:ks=ks':=by assumption
  subst this
  obtain⟨us,rfl,hus,h1,h2⟩:=hK.agg_inv
  unfold qdv at hf
  split at hf
  ·cases hf
  ·obtain⟨y,hy⟩:=Option.isSome_iff_exists.1 hs
   exact qxr hu hf (by
    have:eqL ks xs xs=some y:=by
     have e:xs=ys:=by simp_all
     subst e;exact hy
    rw[(qpf _ _ _ _ this).1];exact Nat.le_refl _) hus h1 h2 b 9998
def qcY(G:qb)(w:World)(es:List (LV×LV))(ents:List MapEntry):Prop:=
 ents.length=es.length/\∀(i:Nat)(kv:LV×LV)(e:MapEntry),es[i]? = some kv->ents[i]? = some e->VR G w kv.1 e.key/\VR G w kv.2 e.val
theorem qcY.tail{kv:LV×LV}{es:List (LV×LV)}{e:MapEntry}{ents:List MapEntry}(h:qcY G w (kv::es) (e::ents)):VR G w kv.1 e.key/\VR G w kv.2 e.val/\qcY G w es ents:=
 ⟨(h.2 0 kv e rfl rfl).1,(h.2 0 kv e rfl rfl).2,by have:=h.1;simp at this;exact this,fun i kv e h1 h2=>h.2 (i+1) kv e (by simpa using h1) (by simpa using h2)⟩
def wu(e:EqK)(K:LV):List (LV×LV)->Nat->Option (Option (Nat×LV))
 |[],_=>some none
 |(j,v)::r,i=>match eqK e K j with
  |some true=>some (some (i,v))
  |some false=>wu e K r (i+1)
  |none=>none
theorem qou(e:EqK)(K:LV):∀(es:List (LV×LV))(i:Nat),(wu e K es i).map (·.map (·.2))=vM e K es
 |[],_=>rfl
 |(j,v)::r,i=>by
  simp only[wu,vM]
  cases hc:eqK e K j with
  |none=>rfl
  |some b=>
   cases b
   ·exact qou e K r (i+1)
   ·rfl
theorem qph{ks:List Nat}{X Y:LV}{b:Bool}(h:eqK (.st ks) X Y=some b):∃xs ys,X=.agg xs/\Y=.agg ys/\eqL ks xs ys=some b:=by
 cases X<;>cases Y<;>simp[eqK]at h
 exact⟨_,_,rfl,rfl,h⟩
theorem qjB{e:EqK}{K:LV}:∀(es:List (LV×LV))(i:Nat)(p:Nat×LV),wu e K es i=some (some p)->i<=p.1/\∃k,es[p.1 - i]? = some (k,p.2)/\eqK e K k=some true
 |[],_,_,h=>by simp[wu]at h
 |(j,v)::r,i,p,h=>by
  simp only[wu]at h
  split at h
  ·rename_i he
   simp at h;subst h
   exact⟨Nat.le_refl _,j,by simp,he⟩
  ·obtain⟨h1,k,h2,h3⟩:=qjB r (i+1) p h
   refine⟨by omega,k,?_,h3⟩
   obtain⟨m,hm⟩:∃m,p.1 - i=m+1:=⟨p.1 - i - 1,by omega⟩
   rw[hm,List.getElem?_cons_succ,show m=p.1 - (i+1) by omega]
   exact h2
  ·cases h
def qeB(G:qb)(w:World)(ents:List MapEntry)(i0:Nat):Option (Nat×LV)->Option (Nat×Value)->Prop
 |none,none=>True
 |some (i,x),some (j,v)=>i=j/\VR G w x v/\∃e,ents[i - i0]? = some e/\e.val=v
 |_,_=>False
theorem qeB.cons{e:MapEntry}{ents:List MapEntry}{i0:Nat}{r:Option (Nat×LV)}{r':Option (Nat×Value)}(h:qeB G w ents (i0+1) r r')(hr:∀p,r=some p->i0+1<=p.1):qeB G w (e::ents) i0 r r':=by
 cases r with
 |none=>cases r'<;>exact h
 |some p=>
  obtain⟨i,x⟩:=p
  cases r' with
  |none=>exact h
  |some q=>
   obtain⟨h1,h2,e',h3,h4⟩:=h
   refine⟨h1,h2,e',?_,h4⟩
   have:=hr _ rfl
   obtain⟨m,hm⟩:∃m,i - i0=m+1:=⟨i - i0 - 1,by simp at this;omega⟩
   rw[hm,List.getElem?_cons_succ,show m=i - (i0+1) by omega]
   exact h3
theorem qmj{t:TypeId}{d:TypeDesc}{k:Nat}{K:LV}{u:Value}(hk:wm P t=some k)(hd:P.underlying t=some d)(hK:VR G w K u):
  ∀(es:List (LV×LV))(ents:List MapEntry)(i:Nat)(r:Option (Nat×LV)),qcY G w es ents->wu (.pl k) K es i=some r->∃r',Instr.findNow d u ents i=some r'/\qeB G w ents i r r'
 |[],[],i,r,_,h=>by simp[wu]at h;subst h;exact⟨none,rfl,trivial⟩
 |(j,v)::es,e::ents,i,r,hE,h=>by
  obtain⟨h1,h2,h3⟩:=hE.tail
  have hs:∀b,eqK (.pl k) K j=some b->Instr.sameNow d u e.key=some b:=by
   intro b hb
   simp only[eqK]at hb
   unfold eqB at hb
   unfold wm at hk
   rw[hd]at hk
   split at hb
   ·obtain rfl:=hK.sc_inv
    have hj:=h1.sc_inv
    rw[hj]
    split at hb
    ·rename_i hkk
     subst hkk
     simp at hb;subst hb
     split at hk<;>simp at hk
     simp_all [Instr.sameNow]
    ·cases hb
   ·obtain rfl:=hK.sc_inv
    have hj:=h1.sc_inv
    rw[hj]
    simp at hb;subst hb
    split at hk<;>simp at hk
    simp_all [Instr.sameNow,beq_toListBytes]
   ·obtain rfl:=hK.sc_inv
    have hj:=h1.sc_inv
    rw[hj]
    simp at hb;subst hb
    split at hk<;>simp at hk
    simp_all [Instr.sameNow]
   ·cases hb
  simp only[wu]at h
  split at h
  ·rename_i he
   simp at h;subst h
   exact⟨some (i,e.val),by simp[Instr.findNow,hs true he],rfl,h2,e,by simp,rfl⟩
  ·rename_i he
   obtain⟨r',k1,k2⟩:=qmj hk hd hK es ents (i+1) r h3 h
   refine⟨r',by simp[Instr.findNow,hs false he,k1],k2.cons (fun p hp=>?_)⟩
   subst hp
   exact(qjB es (i+1) p h).1
  ·cases h
 |[],_::_,_,_,hE,_=>by have:=hE.1;simp at this
 |_::_,[],_,_,hE,_=>by have:=hE.1;simp at this
theorem qmk{t:TypeId}{fs:Array Field}{ks:List Nat}{K:LV}{u:Value}(hu:P.underlying t=some (.struct fs))(hf:qdv P fs t=some ks)(hK:VR G w K u):
  ∀(es:List (LV×LV))(ents:List MapEntry)(i:Nat)(r:Option (Nat×LV)),qcY G w es ents->wu (.st ks) K es i=some r ->
   ∃r',(Instr.findAsking t u ents i).run P w=.ok r' w/\qeB G w ents i r r'
 |[],[],i,r,_,h=>by simp[wu]at h;subst h;exact⟨none,rfl,trivial⟩
 |(j,v)::es,e::ents,i,r,hE,h=>by
  obtain⟨h1,h2,h3⟩:=hE.tail
  have hs:∀b,eqK (.st ks) K j=some b->(Op.equal t u e.key).run P w=.ok b w:=by
   intro b hb
   obtain⟨xs,ys,rfl,rfl,hb⟩:=qph hb
   exact qmn hu hf hb hK h1 9998
  simp only[wu]at h
  split at h
  ·rename_i he
   simp at h;subst h
   exact⟨some (i,e.val),by simp[Instr.findAsking,Sem.run_bind,hs true he],rfl,h2,e,by simp,rfl⟩
  ·rename_i he
   obtain⟨r',k1,k2⟩:=qmk hu hf hK es ents (i+1) r h3 h
   refine⟨r',by simp[Instr.findAsking,Sem.run_bind,hs false he,k1],k2.cons (fun p hp=>?_)⟩
   subst hp
   exact(qjB es (i+1) p h).1
  ·cases h
 |[],_::_,_,_,hE,_=>by have:=hE.1;simp at this
 |_::_,[],_,_,hE,_=>by have:=hE.1;simp at this
theorem qiq{t:TypeId}{e:EqK}{K:LV}{u:Value}{es:List (LV×LV)}{ents:List MapEntry}{r:Option (Nat×LV)}(hk:qbL P t=some e)(hK:VR G w K u)(hE:qcY G w es ents)
  (h:wu e K es 0=some r):∃r',(Instr.findKey t u ents).run P w=.ok r' w/\qeB G w ents 0 r r':=by
 rcases qjn hk with⟨k,hk2,rfl⟩|⟨fs,ks,hu,hf,rfl⟩
 ·have hd:∃d,P.underlying t=some d:=by
   unfold wm at hk2
   split at hk2<;>simp at hk2<;>rename_i hu<;>exact⟨_,hu⟩
  obtain⟨d,hd⟩:=hd
  obtain⟨r',h1,h2⟩:=qmj hk2 hd hK es ents 0 r hE h
  exact⟨r',by simp[Instr.findKey,Sem.run_bind,run_underlying hd,h1],h2⟩
 ·cases ents with
  |nil=>
   have:es=[]:=by have:=hE.1;simpa using this.symm
   subst this
   simp[wu]at h;subst h
   exact⟨none,by simp[Instr.findKey,run_underlying hu,Instr.findNow],trivial⟩
  |cons e0 ents=>
   obtain⟨r',h1,h2⟩:=qmk hu hf hK es (e0::ents) 0 r hE h
   refine⟨r',?_,h2⟩
   have hn:Instr.findNow (.struct fs) u (e0::ents) 0=none:=by
    simp[Instr.findNow,Instr.sameNow]
   simp[Instr.findKey,Sem.run_bind,run_underlying hu,hn,h1]
theorem qqU(hI:Inv G w H)(hρ:EvR E G w fr ρ){t kt et:TypeId}{x i:Operand}{bx bi:BO}{ok:Bool}{e:EqK}{z:LV}(ho:o.op=.lookup t x i ok)
  (ht:P.underlying t=some (.map kt et)) (hk:qbL P kt=some e) (hz:qdK P et=some z) (hx:cO x=some bx) (hi:cO i=some bi) (hself:(eqK e (E.ev fr bi) (E.ev fr bi)).isSome=true):
  (E.ev fr bx=.sc (.map none)->zj P G w H ρ o (if ok then .tup [z,.bool false] else z)) /\
  (∀m es,E.ev fr bx=.map m->qaF G w m es->vM e (E.ev fr bi) es=some none->zj P G w H ρ o (if ok then .tup [z,.bool false] else z)) /\
  (∀m es v,E.ev fr bx=.map m->qaF G w m es->vM e (E.ev fr bi) es=some (some v)->zj P G w H ρ o (if ok then .tup [v,.bool true] else v)):=by
 have hX:=hρ _ _ hx
 have hK:=hρ _ _ hi
 obtain⟨zv,hzv,hZ⟩:=qkC (P:=P) (G:=G) (w:=w) hz
 have pair:∀(a:LV)(v:Value)(b:Bool),VR G w a v->VR G w (if ok then .tup [a,.bool b] else a) (if ok then .tuple #[v,.bool b] else v):=by
  intro a v b h
  cases ok
  ·exact h
  ·refine .tup rfl (fun i c hc=>?_)
   match i,hc with
   |0,hc=>simp at hc;subst hc;exact h
   |1,hc=>simp at hc;subst hc;exact .sc _
   |i+2,hc=>simp at hc
 have main:∀(m:Nat)(es:List (LV×LV))(r:Option LV),E.ev fr bx=.map m->qaF G w m es->vM e (E.ev fr bi) es=some r ->
   ∃v b,(Instr.lookup t (ρ x) (ρ i) ok).run P w=.ok (if ok then .tuple #[v,.bool b] else v) w/\(match r with|none=>v=zv/\b=false|some y=>VR G w y v/\b=true):=by
  intro m es r hm hl hf
  rw[hm]at hX
  obtain⟨_,hv⟩:=hX.map_inv
  obtain⟨ents,clock,hh,_,_,hsz,hvr,_⟩:=hl
  have hE:qcY G w es ents.toList:=⟨by simpa using hsz,fun i kv e h1 h2=>hvr i kv e h1 (by simpa using h2)⟩
  rw[<-qou _ _ _ 0]at hf
  obtain⟨r0,hr0,hr1⟩:=Option.map_eq_some_iff.1 hf
  obtain⟨r',h1,h2⟩:=qiq hk hK hE hr0
  have hck:=qis (P:=P) hk hK hself ents.isEmpty
  have base:(Instr.lookup t (ρ x) (ρ i) ok).run P w=(match r' with
    |some (_,v)=>.ok (if ok then .tuple #[v,.bool true] else v) w
    |none=>.ok (if ok then .tuple #[zv,.bool false] else zv) w):=by
   simp only[Instr.lookup,Sem.run_bind,run_underlying ht,hv,Result.andThen_ok,qbY hh,Sem.run_pure,hck,h1]
   cases r' with
   |none=>simp[Sem.run_bind,hzv]
   |some p=>simp
  cases r0 with
  |none=>
   simp at hr1;subst hr1
   cases r' with
   |none=>exact⟨zv,false,base,rfl,rfl⟩
   |some p=>exact h2.elim
  |some p=>
   simp at hr1;subst hr1
   cases r' with
   |none=>exact h2.elim
   |some q=>obtain⟨q1,q2⟩:=q;exact⟨q2,true,base,h2.2.1,rfl⟩
 refine⟨fun hm=>?_,fun m es hm hl hf=>?_,fun m es v hm hl hf=>?_⟩
 ·rw[hm]at hX
  have hv:=hX.sc_inv
  have hck:=qis (P:=P) hk hK hself true
  obtain⟨r',h1,h2⟩:=qiq (es:=[]) (ents:=[]) hk hK ⟨rfl,fun _ _ _ h=>by simp at h⟩ (r:=none) rfl
  have h3:r'=none:=by cases r' with
   |none=>rfl
   |some p=>exact h2.elim
  subst h3
  refine .here hI (v:=if ok then .tuple #[zv,.bool false] else zv) ?_ (pair z zv false hZ)
  have:(Instr.lookup t (ρ x) (ρ i) ok).run P w=.ok (if ok then .tuple #[zv,.bool false] else zv) w:=by
   simp only[Instr.lookup,Sem.run_bind,run_underlying ht,hv,Result.andThen_ok,Sem.run_pure]
   simp only[List.isEmpty_toArray,List.isEmpty_nil,hck,Result.andThen_ok,h1,Sem.run_bind,hzv,Sem.run_pure]
  simp[execOp,ho,Sem.run_bind,this]
 ·obtain⟨v,b,h1,h2,h3⟩:=main m es none hm hl hf
  subst h2;subst h3
  refine .here hI (v:=if ok then .tuple #[v,.bool false] else v) ?_ (pair z v false hZ)
  simp[execOp,ho,Sem.run_bind,h1]
 ·obtain⟨v',b,h1,h2,h3⟩:=main m es (some v) hm hl hf
  subst h3
  refine .here hI (v:=if ok then .tuple #[v',.bool true] else v') ?_ (pair v v' true h2)
  simp[execOp,ho,Sem.run_bind,h1]
theorem qjH{e:EqK}{K:LV}:∀{es:List (LV×LV)}{r:Option LV},wC e K es=some r->vM e K es=some r
 |[],_,h=>h
 |(j,v)::es,r,h=>by
  simp only[wC]at h
  split at h
  ·rename_i h1 h2
   simp at h;subst h
   simp[vM,h1]
  ·rename_i x h1 h2
   simp at h;subst h
   simp only[vM,h1]
   exact qjH h2
  ·cases h
theorem qwo(e:EqK)(K:LV)(a b:LV×LV)(l:List (LV×LV)):wC e K (a::b::l)=wC e K (b::a::l):=by
 obtain⟨j,v⟩:=a
 obtain⟨j',v'⟩:=b
 simp only[wC]
 cases eqK e K j with
 |none=>
  cases eqK e K j' with
  |none=>rfl
  |some c=>cases c<;>cases wC e K l with
   |none=>rfl
   |some x=>cases x<;>rfl
 |some c=>
  cases eqK e K j' with
  |none=>cases c<;>cases wC e K l with
   |none=>rfl
   |some x=>cases x<;>rfl
  |some c'=>cases c<;>cases c'<;>cases wC e K l with
   |none=>rfl
   |some x=>cases x<;>rfl
theorem qwp{e:EqK}{K:LV}{l l':List (LV×LV)}(h:l.Perm l'):wC e K l=wC e K l':=by
 induction h with
 |nil=>rfl
 |cons x _ ih=>obtain⟨j,v⟩:=x;simp only[wC,ih]
 |swap x y l=>exact qwo e K y x l
 |trans _ _ ih1 ih2=>exact ih1.trans ih2
end
end Go.Abs
namespace Go.Abs
open Go
section
variable{P:Program}{E:Env}{G G':qb}{w w':World}{fr:Fr}{ρ:Operand->Value}{H H':qa}{o:Oper}
theorem qxG{a b:ByteArray}(h:(a.toList==b.toList)=true):a=b:=by
 have h1:=eq_of_beq h
 rw[ByteArray.toList_eq,ByteArray.toList_eq]at h1
 obtain⟨⟨x⟩⟩:=a
 obtain⟨⟨y⟩⟩:=b
 simp at h1
 rw[h1]
theorem qqc(a:ByteArray):(a==a)=true:=by rw[beq_toListBytes];simp
theorem qpj{k:Nat}{X Y:LV}(h:eqB k X Y=some true):∃u,X=.sc u/\Y=.sc u/\Instr.sameBits 9999 u u=true/\Instr.sameBits 10000 u u=true:=by
 unfold eqB at h
 split at h
 ·split at h
  ·rename_i hk
   subst hk
   simp at h;subst h
   exact⟨_,rfl,rfl,by simp[Instr.sameBits],by simp[Instr.sameBits]⟩
  ·cases h
 ·simp only[Option.some.injEq]at h
  rw[qxG h]
  exact⟨_,rfl,rfl,by simp[Instr.sameBits,qqc],by simp[Instr.sameBits,qqc]⟩
 ·simp at h;subst h
  exact⟨_,rfl,rfl,by simp[Instr.sameBits],by simp[Instr.sameBits]⟩
 ·cases h
theorem qpe:∀(ks:List Nat)(xs ys:List LV),eqL ks xs ys=some true->xs=ys/\∀(i:Nat)(c:LV),xs[i]? = some c->∃u,c=.sc u/\Instr.sameBits 9999 u u=true
 |[],[],[],_=>⟨rfl,fun i c hc=>by simp at hc⟩
 |k::ks,x::xs,y::ys,h=>by
  simp only[eqL]at h
  split at h
  ·rename_i p q hp hq
   simp at h
   obtain⟨rfl,rfl⟩:=h
   obtain⟨u,rfl,rfl,h1,_⟩:=qpj hp
   obtain⟨rfl,h2⟩:=qpe ks xs ys hq
   refine⟨rfl,fun i c hc=>?_⟩
   cases i with
   |zero=>simp at hc;subst hc;exact⟨u,rfl,h1⟩
   |succ i=>exact h2 i c (by simpa using hc)
  ·cases h
 |[],[],_::_,h=>by simp[eqL]at h
 |[],_::_,_,h=>by simp[eqL]at h
 |_::_,[],_,h=>by simp[eqL]at h
 |_::_,_::_,[],h=>by simp[eqL]at h
theorem qvs{t:TypeId}{e:EqK}{K j:LV}{u v:Value}(hk:qbL P t=some e)(h:eqK e K j=some true)(hK:VR G w K u)(hj:VR G w j v):K=j/\u=v/\Instr.sameBits 10000 v u=true:=by
 rcases qjn hk with⟨k,_,rfl⟩|⟨fs,ks,_,_,rfl⟩
 ·obtain⟨c,rfl,rfl,_,h2⟩:=qpj (show eqB k K j=some true from h)
  obtain rfl:=hK.sc_inv
  obtain rfl:=hj.sc_inv
  exact⟨rfl,rfl,h2⟩
 ·obtain⟨xs,ys,rfl,rfl,h⟩:=qph h
  obtain⟨rfl,h2⟩:=qpe ks xs ys h
  obtain⟨us,rfl,hus,hu,_⟩:=hK.agg_inv
  obtain⟨vs,rfl,hvs,hv,_⟩:=hj.agg_inv
  have hsc:∀i,i<us.size->∃a,us[i]? = some a/\vs[i]? = some a/\Instr.sameBits 9999 a a=true:=by
   intro i hi
   have hx:=List.getElem?_eq_getElem (l:=xs) (i:=i) (by omega)
   obtain⟨a,ha,hb⟩:=h2 i _ hx
   have e1:=hu i _ hx
   have e2:=hv i _ hx
   rw[ha]at e1 e2
   have e1:=e1.sc_inv
   have e2:=e2.sc_inv
   exact⟨a,by rw[getD_some (us:=us) hi,e1],by rw[getD_some (us:=vs) (by omega),e2],hb⟩
  have huv:us=vs:=by
   apply Array.ext_getElem?
   intro i
   by_cases hi:i<us.size
   ·obtain⟨a,h3,h4,_⟩:=hsc i hi;rw[h3,h4]
   ·rw[Array.getElem?_eq_none (by omega),Array.getElem?_eq_none (by omega)]
  subst huv
  refine⟨rfl,rfl,?_⟩
  show Instr.sameBits (9999+1) _ _=true
  simp only[Instr.sameBits,beq_self_eq_true,Bool.true_and,List.all_eq_true]
  intro p hp
  obtain⟨i,hi,he⟩:=List.getElem_of_mem hp
  simp at hi
  obtain⟨a,h3,_,h5⟩:=hsc i hi
  have:p=(a,a):=by
   rw[<-he]
   rw[Array.getElem?_eq_getElem hi]at h3
   simp at h3
   simp[h3]
  rw[this];exact h5
theorem qlZ(e:EqK)(K V:LV):∀(es:List (LV×LV))(i:Nat)(es':List (LV×LV)),wg e K V es=some es' ->
  ∃r,wu e K es i=some r/\match r with
   |none=>es'=es++[(K,V)]
   |some p=>i<=p.1/\∃k v,es[p.1 - i]? = some (k,v)/\eqK e K k=some true/\es'=es.set (p.1 - i) (k,V)
 |[],i,es',h=>by simp[wg]at h;subst h;exact⟨none,rfl,rfl⟩
 |(j,u)::r,i,es',h=>by
  simp only[wg]at h
  cases hc:eqK e K j with
  |none=>rw[hc]at h;cases h
  |some b=>
   rw[hc]at h
   cases b
   ·obtain⟨es2,h2,rfl⟩:=Option.map_eq_some_iff.1 h
    obtain⟨q,h3,h4⟩:=qlZ e K V r (i+1) es2 h2
    refine⟨q,by simp[wu,hc,h3],?_⟩
    cases q with
    |none=>simp at h4 ⊢;exact h4
    |some p=>
     obtain⟨h5,k,v,h6,h7,h8⟩:=h4
     obtain⟨m,hm⟩:∃m,p.1 - i=m+1:=⟨p.1 - i - 1,by omega⟩
     have hm2:p.1 - (i+1)=m:=by omega
     refine⟨by omega,k,v,?_,h7,?_⟩
     ·rw[hm,List.getElem?_cons_succ,<-hm2];exact h6
     ·rw[hm,List.set_cons_succ,<-hm2,h8]
   ·simp at h;subst h
    exact⟨some (i,u),by simp[wu,hc],Nat.le_refl _,j,u,by simp,hc,by simp⟩
theorem qpb{r:Nat}{ob ob':Obj}(h:w.heap[r]? = some ob)(hne:∀vs el fz,ob≠.cells vs el fz)(hB:¬(G.B r).isSome)(hG:G'.B=G.B)(hn:G.n<=G'.n)
  (hloc:∀o,o<G.n->G'.loc o=G.loc o) (hasz:∀o,o<G.n->G'.asz o=G.asz o) (htk:∀t,t<G.n->G'.tk t=G.tk t) (hown:∀b x,G.own b x=.cl->G'.own b x=.cl) (d:Nat) (hrc:G'.rc=G.rc:=by rfl):
  Ext G w G' { w with heap:=w.heap.setIfInBounds r ob',drawn:=d } where
 os:=rfl
 tape:=rfl
 output:=rfl
 size:=by simp
 hB:=hG
 rc:=hrc
 block k hk:=by
  have hk':k≠r:=fun e=>hB (e▸hk)
  show (w.heap.setIfInBounds r ob')[k]? = _
  rw[Array.getElem?_setIfInBounds_ne (fun e=>hk' e.symm)]
 n:=hn
 loc:=hloc
 asz:=hasz
 cl b x hb:=by
  refine⟨hown b x hb,fun v hv=>?_⟩
  have:b≠r:=by
   intro e;subst e
   unfold World.cell? at hv
   rw[show (at_ b x).block=b from rfl,h]at hv
   cases ob<;>simp at hv
   exact absurd rfl (hne _ _ _)
  have e1:({ w with heap:=w.heap.setIfInBounds r ob',drawn:=d }:World).heap[b]? = w.heap[b]?:=by
   show (w.heap.setIfInBounds r ob')[b]? = _
   rw[Array.getElem?_setIfInBounds_ne (fun e=>this e.symm)]
  rw[qaw e1];exact hv
 tk t ht m b c hm:=⟨m,b,c,by rw[htk t ht];exact hm,Nat.le_refl _,fun _=>⟨rfl,rfl⟩⟩
theorem qkU{r:Nat}{ob ob':Obj}(h:w.heap[r]? = some ob)(hne:∀vs el fz,ob≠.cells vs el fz)(d:Nat):
  qdH w { w with heap:=w.heap.setIfInBounds r ob',drawn:=d } (fun _ _=>False) (fun k=>k=r) where
 cells k vs el fz hk:=by
  have:k≠r:=by intro e;subst e;rw[h]at hk;simp at hk;exact hne _ _ _ hk
  refine⟨vs,?_,rfl,fun _ _=>rfl⟩
  show (w.heap.setIfInBounds r ob')[k]? = _
  rw[Array.getElem?_setIfInBounds_ne (fun e=>this e.symm)];exact hk
 other k ob2 hk _ hv:=by
  show (w.heap.setIfInBounds r ob')[k]? = _
  rw[Array.getElem?_setIfInBounds_ne (fun e=>hv e.symm)];exact hk
theorem qfv{r:Nat}{ob ob':Obj}(h:w.heap[r]? = some ob)(d:Nat):({ w with heap:=w.heap.setIfInBounds r ob',drawn:=d }:World).heap[r]? = some ob':=by
 show (w.heap.setIfInBounds r ob')[r]? = _
 rw[Array.getElem?_setIfInBounds_self]
 rw[if_pos (qbl h)]
theorem Inv.setObj(hI:Inv G w H){m:Nat}{lo lo':qc}{ob ob':Obj}(hl:look m H.objs=some lo)(h:w.heap[G.loc m]? = some ob)(hne:∀vs el fz,ob≠.cells vs el fz)(hB:¬(G.B (G.loc m)).isSome)
  (hown:G.own (G.loc m) 0=.obj m) (d:Nat)
  (hmap:∀es',lo'=.map es'->∃es ents clock,lo=.map es/\ob=.map ents clock/\es.length<=es'.length/\(es.length=es'.length->∀ents' clock',ob'=.map ents' clock' ->
   ents'.size=ents.size/\∀i,(ents'.getD i default).born=(ents.getD i default).born))
  (hobj:Ext G w G { w with heap:=w.heap.setIfInBounds (G.loc m) ob',drawn:=d }->yW G { w with heap:=w.heap.setIfInBounds (G.loc m) ob',drawn:=d } (H.put m lo') m lo'):
  Ext G w G { w with heap:=w.heap.setIfInBounds (G.loc m) ob',drawn:=d }/\Inv G { w with heap:=w.heap.setIfInBounds (G.loc m) ob',drawn:=d } (H.put m lo'):=by
 have hx:Ext G w G { w with heap:=w.heap.setIfInBounds (G.loc m) ob',drawn:=d }:=qpb h hne hB rfl (Nat.le_refl _) (fun _ _=>rfl) (fun _ _=>rfl) (fun _ _=>rfl) (fun _ _ h=>h) d
 have hlp:=fun j=>wn (j:=j) (ob':=lo') hl
 refine⟨hx,Inv.step (fun i=>i=m) hI hx (qkU h hne d) hI.n (fun b x hb=>hI.free b x (by simpa using hb)) hI.old (fun i x hi hh=>by rw[hlp,if_neg hi]at hh;exact hh)
  (fun _ _ _ _ _ h=>h) (fun i hi ho hc=>?_) (fun _ _ _ _=>⟨fun h=>h,fun h=>h⟩) (fun _ _ _=>rfl) (fun j es' hj hh=>?_) (fun i x hi hh=>?_)⟩
 ·rw[hc,hown]at ho
  simp at ho
  exact hi ho.symm
 ·rw[hlp]at hh
  by_cases hjm:j=m
  ·subst hjm
   rw[if_pos rfl]at hh
   simp at hh
   obtain⟨es,ents,clock,h1,h2,h3,h4⟩:=hmap es' hh
   refine⟨es,by rw[hl,h1],h3,fun he ents' clock' hp=>?_⟩
   rw[qfv h d]at hp
   simp at hp
   obtain⟨h5,h6⟩:=h4 he ents' clock' hp
   exact⟨ents,clock,by rw[h,h2],h5,h6⟩
  ·rw[if_neg hjm]at hh
   obtain⟨_,ents,clock,q1,_,q3,_⟩:=hI.objs j _ hh
   have:G.loc j≠G.loc m:=by
    intro e
    rw[e,hown]at q3
    simp at q3
    exact hjm q3.symm
   refine⟨es',hh,Nat.le_refl _,fun _ ents' clock' hp=>?_⟩
   have e2:({ w with heap:=w.heap.setIfInBounds (G.loc m) ob',drawn:=d }:World).heap[G.loc j]? = w.heap[G.loc j]?:=by
    show (w.heap.setIfInBounds (G.loc m) ob')[G.loc j]? = _
    rw[Array.getElem?_setIfInBounds_ne (fun e=>this e.symm)]
   rw[e2]at hp
   exact⟨ents',clock',hp,rfl,fun _=>rfl⟩
 ·subst hi
  rw[hlp,if_pos rfl]at hh
  simp at hh;subst hh
  exact⟨(hI.objs i _ hl).1,hobj hx⟩
theorem qwO(hI:Inv G w H)(hρ:EvR E G w fr ρ){t kt et:TypeId}{m k x:Operand}{bm bk bx:BO}{e:EqK}(ho:o.op=.mapUpdate t m k x\/o.op=.insert t m k x)
  (ht:P.underlying t=some (.map kt et)) (hk:qbL P kt=some e) (hm:cO m=some bm) (hkk:cO k=some bk) (hx:cO x=some bx)
  (hself:(eqK e (E.ev fr bk) (E.ev fr bk)).isSome=true) {q:Nat} {es es':List (LV×LV)} (hq:E.ev fr bm=.map q) (hl:look q H.objs=some (.map es)) (hs:wg e (E.ev fr bk) (E.ev fr bx) es=some es'):
  vA P G w ρ o .bot (H.put q (.map es')):=by
 have hM:=hρ _ _ hm
 have hK:=hρ _ _ hkk
 have hX:=hρ _ _ hx
 rw[hq]at hM
 obtain⟨_,hv⟩:=hM.map_inv
 obtain⟨hqn,ents,clock,hh,hB,hown,hsz,hvr,hborn,hclk,hce⟩:=hI.objs q _ hl
 have hE:qcY G w es ents.toList:=⟨by simpa using hsz,fun i kv e h1 h2=>hvr i kv e h1 (by simpa using h2)⟩
 obtain⟨r,hr,hspec⟩:=qlZ e (E.ev fr bk) (E.ev fr bx) es 0 es' hs
 obtain⟨r',h1,h2⟩:=qiq hk hK hE hr
 have hck:=qis (P:=P) hk hK hself false
 have fin:∀ob',(Instr.mapUpdate t (ρ m) (ρ k) (ρ x)).run P w=.ok () { w with heap:=w.heap.setIfInBounds (G.loc q) ob' } ->
   (∀es2,qc.map es'=.map es2->∃es0 ents0 clock0,qc.map es=.map es0/\Obj.map ents clock=.map ents0 clock0/\es0.length<=es2.length/\(es0.length=es2.length->∀ents' clock',ob'=.map ents' clock' ->
    ents'.size=ents0.size/\∀i,(ents'.getD i default).born=(ents0.getD i default).born)) ->
   (Ext G w G { w with heap:=w.heap.setIfInBounds (G.loc q) ob',drawn:=w.drawn }->yW G { w with heap:=w.heap.setIfInBounds (G.loc q) ob',drawn:=w.drawn } (H.put q (.map es')) q (.map es')) ->
   vA P G w ρ o .bot (H.put q (.map es')):=by
  intro ob' hrun hmap hobj
  obtain⟨q1,q2⟩:=hI.setObj (ob':=ob') hl hh (by simp) hB hown w.drawn hmap hobj
  refine⟨undef,_,G,.inr ⟨?_,rfl⟩,.bot _,q1,q2⟩
  rcases ho with ho|ho<;>simp[execOp,ho,Sem.run_bind,hrun]
 have hset:∀ob',(setObj (G.loc q) ob').run P w=.ok () { w with heap:=w.heap.setIfInBounds (G.loc q) ob' }:=by
  intro ob'
  simp[setObj,Sem.run,hh]
 cases r with
 |none=>
  simp at hspec
  subst hspec
  have h3:r'=none:=by cases r' with
   |none=>rfl
   |some p=>exact h2.elim
  subst h3
  refine fin (.map (ents.push { key:=ρ k,val:=ρ x,born:=clock }) (clock+1)) ?_ ?_ ?_
  ·simp only[Instr.mapUpdate,Sem.run_bind,run_underlying ht,hv,Result.andThen_ok,qbY hh,hck,h1,hset]
  ·intro es2 he
   simp at he;subst he
   exact⟨es,ents,clock,rfl,rfl,by simp,fun h=>by simp at h⟩
  ·intro hx'
   refine⟨ents.push { key:=ρ k,val:=ρ x,born:=clock },clock+1,qfv hh _,hB,hown,by simp[hsz],fun i kv e h3 h4=>?_,fun i j e1 e2 h3 h4 h5=>?_,fun i e1 h3=>?_,by simp[hce]⟩
   ·by_cases hi:i<es.length
    ·rw[List.getElem?_append_left hi]at h3
     rw[Array.getElem?_push,if_neg (by omega)]at h4
     exact⟨(hvr i kv e h3 h4).1.mono hx',(hvr i kv e h3 h4).2.mono hx'⟩
    ·rw[List.getElem?_append_right (by omega)]at h3
     have hi2:i=es.length:=by
      have:=uc h3
      simp at this;omega
     subst hi2
     simp at h3;subst h3
     rw[<-hsz]at h4
     simp at h4;subst h4
     exact⟨hK.mono hx',hX.mono hx'⟩
   ·rw[Array.getElem?_push]at h3 h4
    by_cases hi:i=ents.size
    ·rw[if_pos hi]at h3
     simp at h3;subst h3
     by_cases hj:j=ents.size
     ·omega
     ·rw[if_neg hj]at h4
      have:=hclk j e2 h4
      simp at h5;omega
    ·rw[if_neg hi]at h3
     by_cases hj:j=ents.size
     ·rw[if_pos hj]at h4
      simp at h4;subst h4
      have:=hclk i e1 h3
      simp at h5;omega
     ·rw[if_neg hj]at h4
      exact hborn i j e1 e2 h3 h4 h5
   ·rw[Array.getElem?_push]at h3
    by_cases hi:i=ents.size
    ·rw[if_pos hi]at h3
     simp at h3;subst h3
     exact Nat.lt_succ_self _
    ·rw[if_neg hi]at h3
     exact Nat.lt_succ_of_lt (hclk i e1 h3)
 |some p=>
  obtain⟨_,k0,v0,h3,h4,rfl⟩:=hspec
  simp only[Nat.sub_zero]at h3 h4 ⊢
  cases r' with
  |none=>exact h2.elim
  |some p'=>
   obtain⟨i,pv⟩:=p
   obtain⟨i',pv'⟩:=p'
   obtain⟨hii,_,e0,he0,_⟩:=h2
   subst hii
   simp only[Nat.sub_zero,Array.getElem?_toList]at he0 h3
   obtain⟨hKe,hue,hsb⟩:=qvs hk h4 hK (hvr i (k0,v0) e0 h3 he0).1
   have hlt:i<es.length:=uc h3
   refine fin (.map (ents.modify i fun e=>{ e with key:=ρ k,val:=ρ x }) clock) ?_ ?_ ?_
   ·have hks:(Instr.keyThatStays (((ents[i]?).map (·.key)).getD (ρ k)) (ρ k)).run P w=.ok (ρ k) w:=by
     simp[Instr.keyThatStays,he0,hsb]
    simp only[Instr.mapUpdate,Sem.run_bind,run_underlying ht,hv,Result.andThen_ok,qbY hh,hck,h1,hks,hset]
   ·intro es2 he
    simp at he;subst he
    refine⟨es,ents,clock,rfl,rfl,by simp,fun _ ents' clock' hp=>?_⟩
    simp at hp
    obtain⟨rfl,_⟩:=hp
    refine⟨by simp,fun j=>?_⟩
    rw[Array.getD_eq_getD_getElem?,Array.getD_eq_getD_getElem?,Array.getElem?_modify]
    split
    ·cases ents[j]?<;>rfl
    ·rfl
   ·intro hx'
    refine⟨_,clock,qfv hh _,hB,hown,by simp[hsz],fun j kv e h5 h6=>?_,fun j1 j2 e1 e2 h5 h6 h7=>?_,fun j e1 h5=>?_,by simp[hce]⟩
    ·rw[Array.getElem?_modify]at h6
     rw[List.getElem?_set]at h5
     simp only[Nat.sub_zero]at h5
     by_cases hj:i=j
     ·subst hj
      rw[if_pos rfl,if_pos hlt]at h5
      rw[if_pos rfl,he0]at h6
      simp at h5 h6
      subst h5;subst h6
      exact⟨by rw[<-hKe];exact hK.mono hx',hX.mono hx'⟩
     ·rw[if_neg hj]at h5 h6
      exact⟨(hvr j kv e h5 h6).1.mono hx',(hvr j kv e h5 h6).2.mono hx'⟩
    ·rw[Array.getElem?_modify]at h5 h6
     have g:∀j (e:MapEntry),(if i=j then Option.map (fun e:MapEntry=>{ e with key:=ρ k,val:=ρ x }) ents[j]? else ents[j]?)=some e->∃e',ents[j]? = some e'/\e'.born=e.born:=by
      intro j e h
      split at h
      ·obtain⟨e',h8,rfl⟩:=Option.map_eq_some_iff.1 h
       exact⟨e',h8,rfl⟩
      ·exact⟨e,h,rfl⟩
     obtain⟨a1,a2,a3⟩:=g j1 e1 h5
     obtain⟨b1,b2,b3⟩:=g j2 e2 h6
     exact hborn j1 j2 a1 b1 a2 b2 (by rw[a3,b3,h7])
    ·rw[Array.getElem?_modify]at h5
     split at h5
     ·obtain⟨e',h8,rfl⟩:=Option.map_eq_some_iff.1 h5
      exact hclk j e' h8
     ·exact hclk j e1 h5
end
end Go.Abs
namespace Go.Abs
open Go
section
variable{P:Program}{E:Env}{G G':qb}{w w':World}{fr:Fr}{ρ:Operand->Value}{H H':qa}{o:Oper}
theorem qwK(hI:Inv G w H)(hρ:EvR E G w fr ρ){t kt et:TypeId}{x:Operand}{bx:BO}(ho:o.op=.range t x)(ht:P.underlying t=some (.map kt et))(hx:cO x=some bx)
  (hn:E.ev fr bx=.sc (.map none)):vA P G w ρ o (.ptr H.next 0) (H.alloc (.iter H.next [] none 0)):=by
 have hX:=hρ _ _ hx
 rw[hn]at hX
 have hv:=hX.sc_inv
 obtain⟨h1,h2⟩:=hI.alloc (.mapIter none 0 #[] 0) (.iter H.next [] none 0) (0,0) (fun hx=>by
  refine⟨by rw[qb.add_loc];exact hI.hB',by rw[qb.add_loc];exact qb.add_own _ _ _ _ _,?_⟩
  rw[if_pos rfl,qb.add_loc]
  exact⟨rfl,rfl,rfl,_,_,_,heap_alloc_new⟩)
 refine⟨_,_,_,.inl ?_,qeY,h2,h1⟩
 simp[execOp,ho,Instr.range,Sem.run_bind,run_underlying ht,hv]
theorem qwL(hI:Inv G w H)(hρ:EvR E G w fr ρ){t kt et:TypeId}{x:Operand}{bx:BO}(ho:o.op=.range t x)(ht:P.underlying t=some (.map kt et))(hx:cO x=some bx)
  {m:Nat} {es:List (LV×LV)} (hm:E.ev fr bx=.map m) (hl:look m H.objs=some (.map es)):vA P G w ρ o (.ptr H.next 0) (H.alloc (.iter m (List.range es.length) none es.length)):=by
 have hX:=hρ _ _ hx
 rw[hm]at hX
 obtain⟨_,hv⟩:=hX.map_inv
 obtain⟨hmn,ents,clock,hh,hB,hown,hsz,hvr,hborn,hclk,hce⟩:=hI.objs m _ hl
 have hne:m≠H.next:=by have:=hI.n;omega
 obtain⟨h1,h2⟩:=hI.alloc (.mapIter (some (G.loc m)) clock #[] clock) (.iter m (List.range es.length) none es.length) (0,0) (fun hx=>by
  refine⟨by rw[qb.add_loc];exact hI.hB',by rw[qb.add_loc];exact qb.add_own _ _ _ _ _,?_⟩
  have hlm:(G.add H.next w.heap.size (0,0)).loc m=G.loc m:=by simp[qb.add,hne]
  rw[if_neg hne,qb.add_loc,hlm]
  refine⟨#[],clock,by rw[<-hce];exact heap_alloc_new,by have:=hI.n;simp[qb.add];omega,hce,fun es2 h=>?_,fun es2 h hl2 ents2 clock2 hh2=>?_⟩
  ·rw[qbm hne,hl]at h
   simp at h;subst h;exact Nat.le_refl _
  ·rw[qcK (qbl hh),hh]at hh2
   simp at hh2
   obtain⟨rfl,rfl⟩:=hh2
   refine⟨?_,fun i hi=>by cases hi⟩
   rw[hsz]
   symm
   rw[List.filter_eq_self]
   intro a _
   simp)
 refine⟨_,_,_,.inl ?_,qeY,h2,h1⟩
 simp[execOp,ho,Instr.range,Sem.run_bind,run_underlying ht,hv,qbY hh]
theorem qqL(hI:Inv G w H)(hρ:EvR E G w fr ρ){t xt:TypeId}{x:Operand}{bx:BO}{z:LV}{d:TypeDesc}(ho:o.op=.typeAssert x xt t true)(hd:P.underlying t=some d)
  (hni:∀ms,d≠.interface ms) (hz:qdK P t=some z) (hx:cO x=some bx):
  (∀u v,E.ev fr bx=.iface u v->zj P G w H ρ o (if u=t then .tup [v,.bool true] else .tup [z,.bool false])) /\
  (E.ev fr bx=.sc .nilIface->zj P G w H ρ o (.tup [z,.bool false])):=by
 have hX:=hρ _ _ hx
 obtain⟨zv,hzv,hZ⟩:=qkC (P:=P) (G:=G) (w:=w) hz
 have pair:∀(a:LV)(v:Value)(b:Bool),VR G w a v->VR G w (.tup [a,.bool b]) (.tuple #[v,.bool b]):=by
  intro a v b h
  refine .tup rfl (fun i c hc=>?_)
  match i,hc with
  |0,hc=>simp at hc;subst hc;exact h
  |1,hc=>simp at hc;subst hc;exact .sc _
  |i+2,hc=>simp at hc
 constructor
 ·intro u v hu
  rw[hu]at hX
  obtain⟨y,hv,hV⟩:=hX.iface_inv
  by_cases hut:u=t
  ·rw[if_pos hut]
   refine .here hI (v:=.tuple #[y,.bool true]) ?_ (pair _ _ _ hV)
   have:(Instr.typeAssert (ρ x) xt t true).run P w=.ok (.tuple #[y,.bool true]) w:=by
    rw[hv]
    simp only[Instr.typeAssert,Sem.run_bind,run_underlying hd,Result.andThen_ok]
    cases d<;>first|exact absurd rfl (hni _)|simp[hut]
   simp[execOp,ho,this]
  ·rw[if_neg hut]
   refine .here hI (v:=.tuple #[zv,.bool false]) ?_ (pair _ _ _ hZ)
   have:(Instr.typeAssert (ρ x) xt t true).run P w=.ok (.tuple #[zv,.bool false]) w:=by
    rw[hv]
    simp only[Instr.typeAssert,Sem.run_bind,run_underlying hd,Result.andThen_ok]
    cases d<;>first|exact absurd rfl (hni _)|simp[hut,Sem.run_bind,hzv]
   simp[execOp,ho,this]
 ·intro hu
  rw[hu]at hX
  have hv:=hX.sc_inv
  refine .here hI (v:=.tuple #[zv,.bool false]) ?_ (pair _ _ _ hZ)
  have:(Instr.typeAssert (ρ x) xt t true).run P w=.ok (.tuple #[zv,.bool false]) w:=by
   rw[hv]
   simp only[Instr.typeAssert,Sem.run_bind,run_underlying hd,Result.andThen_ok]
   cases d<;>first|exact absurd rfl (hni _)|simp[Sem.run_bind,hzv]
  simp[execOp,ho,this]
theorem qpc:∀(l:List Nat)(j q:Nat),l.Nodup->l[j]? = some q->l.eraseIdx j=l.filter (fun i=>i != q)
 |[],j,q,_,h=>by simp at h
 |a::l,0,q,hn,h=>by
  simp at h;subst h
  rw[List.nodup_cons]at hn
  simp only[List.eraseIdx_cons_zero]
  rw[List.filter_cons]
  simp
  symm
  rw[List.filter_eq_self]
  intro b hb
  simp
  intro e;subst e;exact hn.1 hb
 |a::l,j+1,q,hn,h=>by
  rw[List.nodup_cons]at hn
  simp at h
  have hne:a≠q:=fun e=>hn.1 (e▸List.mem_of_getElem? h)
  simp only[List.eraseIdx_cons_succ]
  rw[List.filter_cons]
  simp[hne,qpc l j q hn.2 h]
theorem qgs{r:Nat}{m:Option Nat}{a:Nat}{s:Array Nat}{b:Nat}(h:w.heap[r]? = some (.mapIter m a s b)):(getObj r).run P w=.ok (.mapIter m a s b) w:=by
 simp[getObj,Sem.run,h]
theorem qra(hI:Inv G w H)(hρ:EvR E G w fr ρ){x:Operand}{bx:BO}(ho:o.op=.entry x)(hx:cO x=some bx){q m i n:Nat}{left:List Nat}{es:List (LV×LV)}{kv:LV×LV}
  (hq:E.ev fr bx=.ptr q 0) (hl:look q H.objs=some (.iter m left (some i) n)) (hm:look m H.objs=some (.map es)) (hn:es.length=n) (hkv:es[i]? = some kv):zj P G w H ρ o (.tup [kv.1,kv.2]):=by
 have hX:=hρ _ _ hx
 rw[hq]at hX
 obtain⟨_,hv⟩:=hX.ptr_inv
 obtain⟨_,hB,hown,hit⟩:=hI.objs q _ hl
 split at hit
 ·obtain⟨_,_,h,_⟩:=hit;cases h
 ·rename_i hmq
  obtain⟨seen,stepped,h1,h2,h3,_,h4⟩:=hit
  obtain⟨_,ents,clock,hh,_,_,hsz,hvr,hborn,hclk,hce⟩:=hI.objs m _ hm
  obtain⟨h5,h6⟩:=h4 es hm hn ents clock hh
  obtain⟨hi,hback⟩:=h6 i rfl
  have he:=Array.getElem?_eq_getElem hi
  have hd:ents.getD i default=ents[i]:=by rw[Array.getD_eq_getD_getElem?,he];rfl
  rw[hd]at hback
  have hfind:ents.find? (fun e=>e.born==ents[i].born)=some ents[i]:=by
   rw[<-Array.find?_toList,List.find?_eq_some_iff_getElem]
   refine⟨by simp,i,by simpa using hi,by simp,fun j hj=>?_⟩
   simp
   intro hc
   have:=hborn j i _ _ (Array.getElem?_eq_getElem (by omega)) he hc
   omega
  obtain⟨v1,v2⟩:=hvr i kv _ hkv he
  refine .here hI (v:=.tuple #[ents[i].key,ents[i].val]) ?_ ?_
  ·have hclk2:(clock != stepped)=false:=by simp[hce,hn,h3]
   have:(Instr.entry (ρ x)).run P w=.ok (.tuple #[ents[i].key,ents[i].val]) w:=by
    rw[hv]
    simp only[Instr.entry,Sem.run_bind,qgs h1,Result.andThen_ok,hback,qbY hh,hclk2,Bool.false_eq_true,if_false,hfind]
    rfl
   simp[execOp,ho,this]
  ·refine .tup rfl (fun k c hc=>?_)
   match k,hc with
   |0,hc=>simp at hc;subst hc;exact v1
   |1,hc=>simp at hc;subst hc;exact v2
   |k+2,hc=>simp at hc
theorem qqQ(hI:Inv G w H)(hρ:EvR E G w fr ρ){x:Operand}{bx:BO}(ho:o.op=.next x false)(hx:cO x=some bx){q m n:Nat}{cur:Option Nat}
  (hq:E.ev fr bx=.ptr q 0) (hl:look q H.objs=some (.iter m [] cur n)) (hm:m=q\/∃es,look m H.objs=some (.map es)/\es.length=n):zj P G w H ρ o (.tup [.bool false]):=by
 have hX:=hρ _ _ hx
 rw[hq]at hX
 obtain⟨_,hv⟩:=hX.ptr_inv
 obtain⟨_,hB,hown,hit⟩:=hI.objs q _ hl
 have one:VR G w (.tup [.bool false]) (.tuple #[.bool false]):=.tup rfl (fun k c hc=>by
  match k,hc with
  |0,hc=>simp at hc;subst hc;exact .sc _
  |k+1,hc=>simp at hc)
 split at hit
 ·obtain⟨_,_,_,si,se,st,h1⟩:=hit
  refine .here hI (v:=.tuple #[.bool false]) ?_ one
  have:(Instr.next (ρ x) false o.type).run P w=.ok (.tuple #[.bool false]) w:=by
   rw[hv]
   simp only[Instr.next,Sem.run_bind,qgs h1,Result.andThen_ok]
   rfl
  simp[execOp,ho,this]
 ·rename_i hmq
  obtain⟨seen,stepped,h1,h2,h3,_,h4⟩:=hit
  rcases hm with hm|⟨es,hm,hn⟩
  ·exact absurd hm hmq
  ·obtain⟨_,ents,clock,hh,_,_,hsz,hvr,hborn,hclk,hce⟩:=hI.objs m _ hm
   obtain⟨h5,_⟩:=h4 es hm hn ents clock hh
   have hnone:ents.filter (fun e=>!seen.contains e.born)=#[]:=by
    rw[Array.filter_eq_empty_iff]
    intro e he
    obtain⟨i,hi,rfl⟩:=Array.getElem_of_mem he
    have:=congrArg (fun l=>i∈l) h5
    simp at this
    have h6:=this hi
    rw[Array.getElem?_eq_getElem hi]at h6
    simpa using h6
   refine .here hI (v:=.tuple #[.bool false]) ?_ one
   have hguard:(!seen.isEmpty&&!ents.isEmpty&&ents.all (fun e=>decide (e.born ≥ stepped)))=false:=by
    by_cases h0:ents.size=0
    ·have:ents=#[]:=Array.eq_empty_of_size_eq_zero h0
     simp[this]
    ·have h7:=hclk 0 _ (Array.getElem?_eq_getElem (by omega))
     have:ents.all (fun e=>decide (e.born ≥ stepped))=false:=by
      rw[Array.all_eq_false]
      refine⟨0,by omega,?_⟩
      simp;omega
     simp[this]
   have:(Instr.next (ρ x) false o.type).run P w=.ok (.tuple #[.bool false]) w:=by
    rw[hv]
    simp only[Instr.next,Sem.run_bind,qgs h1,qbY hh,Result.andThen_ok,hguard,Bool.false_eq_true,if_false,hnone]
    simp[Question.forced,Sem.run_bind]
   simp[execOp,ho,this]
theorem qwM(hI:Inv G w H)(hρ:EvR E G w fr ρ){x:Operand}{bx:BO}(ho:o.op=.next x false)(hx:cO x=some bx){q m n:Nat}{left:List Nat}{cur:Option Nat}{es:List (LV×LV)}
  (hq:E.ev fr bx=.ptr q 0) (hl:look q H.objs=some (.iter m left cur n)) (hne:left≠[]) (hm:look m H.objs=some (.map es)) (hn:es.length=n):
  ∃j p kv,left[j]? = some p/\es[p]? = some kv/\vA P G w ρ o (.tup [.bool true,kv.1,kv.2]) (H.put q (.iter m (left.eraseIdx j) (some p) n)):=by
 have hX:=hρ _ _ hx
 rw[hq]at hX
 obtain⟨_,hv⟩:=hX.ptr_inv
 obtain⟨hqn,hB,hown,hit⟩:=hI.objs q _ hl
 split at hit
 ·exact absurd hit.1 hne
 ·rename_i hmq
  obtain⟨seen,stepped,h1,h2,h3,h3',h4⟩:=hit
  obtain⟨_,ents,clock,hh,hBm,hownm,hsz,hvr,hborn,hclk,hce⟩:=hI.objs m _ hm
  obtain⟨h5,_⟩:=h4 es hm hn ents clock hh
  let L:=ents.filter (fun e=>!seen.contains e.born)
  have hL:L.toList=left.map (fun i=>ents.getD i default):=by
   have e1:ents.toList=(List.range ents.size).map (fun i=>ents.getD i default):=by
    apply List.ext_getElem?
    intro i
    by_cases hi:i<ents.size
    ·simp[hi]
    ·simp[hi]
   have e2:L.toList=ents.toList.filter (fun e=>!seen.contains e.born):=by simp[L]
   rw[e2,e1,List.filter_map,h5]
   rfl
  have hLsize:L.size=left.length:=by
   have:=congrArg List.length hL
   simpa using this
  have hpos:0<left.length:=List.length_pos_iff.2 hne
  have hold:L.filter (fun e=>decide (e.born<n))=L:=by
   rw[Array.filter_eq_self]
   intro e he
   have:e∈ents:=by
    have:e∈ents.filter (fun e=>!seen.contains e.born):=he
    simp at this;exact this.1
   obtain⟨i,hi,rfl⟩:=Array.getElem_of_mem this
   have:=hclk i _ (Array.getElem?_eq_getElem hi)
   simp;omega
  have hnew:L.filter (fun e=>decide (e.born ≥ n))=#[]:=by
   rw[Array.filter_eq_empty_iff]
   intro e he
   have:e∈ents:=by
    have:e∈ents.filter (fun e=>!seen.contains e.born):=he
    simp at this;exact this.1
   obtain⟨i,hi,rfl⟩:=Array.getElem_of_mem this
   have:=hclk i _ (Array.getElem?_eq_getElem hi)
   simp;omega
  have hguard:(!seen.isEmpty&&!ents.isEmpty&&ents.all (fun e=>decide (e.born ≥ stepped)))=false:=by
   by_cases h0:ents.size=0
   ·have:ents=#[]:=Array.eq_empty_of_size_eq_zero h0
    simp[this]
   ·have h7:=hclk 0 _ (Array.getElem?_eq_getElem (by omega))
    have:ents.all (fun e=>decide (e.born ≥ stepped))=false:=by
     rw[Array.all_eq_false]
     refine⟨0,by omega,?_⟩
     simp;omega
    simp[this]
  obtain⟨j,d,hj,hdraw⟩:∃j d,j<left.length/\(choose (.mapNext left.length)).run P w=.ok j { w with drawn:=d }:=by
   by_cases h0:left.length<=1
   ·refine⟨0,w.drawn,hpos,?_⟩
    simp[run_choose,Question.forced,h0]
   ·refine⟨(Question.mapNext left.length).cut (w.tape w.drawn (.mapNext left.length)),w.drawn+1,?_,?_⟩
    ·simp only[Question.cut];exact Nat.mod_lt _ hpos
    ·have:(Question.mapNext left.length).forced=false:=by simp[Question.forced];omega
     simp only[choose,Sem.run,this,Bool.false_eq_true,if_false]
  have hp:=List.getElem?_eq_getElem hj
  have hpm:left[j]∈left:=List.getElem_mem hj
  have hpl:left[j]<ents.size/\seen.contains (ents.getD left[j] default).born=false:=by
   have h8:left[j]∈(List.range ents.size).filter (fun i=>!seen.contains (ents.getD i default).born):=by rw[<-h5];exact hpm
   simpa using h8
  have hkv:=List.getElem?_eq_getElem (l:=es) (i:=left[j]) (by omega)
  have he:=Array.getElem?_eq_getElem hpl.1
  have hget:ents.getD left[j] default=ents[left[j]]:=by rw[Array.getD_eq_getD_getElem?,he];rfl
  have hLj:L[j]? = some ents[left[j]]:=by
   have:=congrArg (fun l=>l[j]?) hL
   simp only[Array.getElem?_toList,List.getElem?_map,hp,Option.map_some,hget]at this
   exact this
  obtain⟨v1,v2⟩:=hvr _ _ _ hkv he
  refine⟨j,left[j],es[left[j]],hp,hkv,?_⟩
  have hnd:left.Nodup:=by rw[h5];exact List.Pairwise.filter _ List.nodup_range
  obtain⟨q1,q2⟩:=hI.setObj (ob':=.mapIter (some (G.loc m)) n (seen.push ents[left[j]].born) clock) (lo':=.iter m (left.eraseIdx j) (some left[j]) n) hl h1 (by simp) hB hown d (by simp) (fun hx'=>by
   refine⟨hB,hown,?_⟩
   rw[if_neg hmq]
   have hlm:G.loc m≠G.loc q:=by
    intro e
    rw[e]at hownm
    rw[hownm]at hown
    simp at hown
    exact hmq hown
   have hmap2:∀es2,look m (H.put q (.iter m (left.eraseIdx j) (some left[j]) n)).objs=some (.map es2)->es2=es:=by
    intro es2 h
    rw[wn hl,if_neg hmq,hm]at h
    simpa using h.symm
   refine⟨seen.push ents[left[j]].born,clock,qfv h1 d,h2,by omega,fun es2 h=>by rw[hmap2 es2 h];omega,fun es2 h hl2 ents2 clock2 hh2=>?_⟩
   have e2:({ w with heap:=w.heap.setIfInBounds (G.loc q) (.mapIter (some (G.loc m)) n (seen.push ents[left[j]].born) clock),drawn:=d }:World).heap[G.loc m]? = w.heap[G.loc m]?:=by
    show (w.heap.setIfInBounds _ _)[G.loc m]? = _
    rw[Array.getElem?_setIfInBounds_ne (fun e=>hlm e.symm)]
   rw[e2,hh]at hh2
   simp at hh2
   obtain⟨rfl,rfl⟩:=hh2
   refine⟨?_,fun i hi=>?_⟩
   ·rw[qpc left j _ hnd hp]
    conv=>lhs;arg 2;rw[h5]
    rw[List.filter_filter]
    apply List.filter_congr
    intro i hi
    simp only[List.mem_range]at hi
    have hgi:ents.getD i default=ents[i]:=by rw[Array.getD_eq_getD_getElem?,Array.getElem?_eq_getElem hi];rfl
    rw[hgi]
    have hpush:∀a b:Nat,(seen.push b).contains a=(seen.contains a||a==b):=by
     intro a b;rw[Bool.eq_iff_iff];simp
    rw[hpush,Bool.not_or,Bool.and_comm]
    congr 1
    by_cases hc:i=left[j]
    ·subst hc;simp
    ·have:ents[i].born≠ents[left[j]].born:=fun e=>hc (hborn _ _ _ _ (Array.getElem?_eq_getElem hi) he e)
     have a1:(i != left[j])=true:=by simpa using hc
     have a2:(ents[i].born==ents[left[j]].born)=false:=by simpa using this
     rw[a1,a2];rfl
   ·simp only[Option.some.injEq]at hi
    subst hi
    refine⟨hpl.1,?_⟩
    rw[hget];simp)
  refine⟨.tuple #[.bool true,ents[left[j]].key,ents[left[j]].val],_,G,.inl ?_,?_,q1,q2⟩
  ·have hset:∀w2:World,w2.heap=w.heap->∀ob',(setObj (G.loc q) ob').run P w2=.ok () { w2 with heap:=w2.heap.setIfInBounds (G.loc q) ob' }:=by
    intro w2 hw2 ob'
    simp[setObj,Sem.run,hw2,h1]
   have:(Instr.next (ρ x) false o.type).run P w=.ok (.tuple #[.bool true,ents[left[j]].key,ents[left[j]].val]) { w with heap:=w.heap.setIfInBounds (G.loc q) (.mapIter (some (G.loc m)) n (seen.push ents[left[j]].born) clock),drawn:=d }:=by
    rw[hv]
    have hLe:ents.filter (fun e=>!seen.contains e.born)=L:=rfl
    have hemp:L.isEmpty=false:=by
     simp[Array.isEmpty,hLsize];omega
    have hcand:((if L.isEmpty=true then #[none] else #[])++Array.map some (L++#[]):Array (Option MapEntry))=L.map some:=by simp[hemp]
    have hcs:(L.map some).size=left.length:=by simp[hLsize]
    have hcj:(L.map some)[j]? = some (some ents[left[j]]):=by simp[hLj]
    simp only[Instr.next,Sem.run_bind,qgs h1,qbY hh,Result.andThen_ok,hguard,Bool.false_eq_true,if_false,hLe,hold,hnew,hcand,hcs,hdraw,hcj]
    rw[hset { w with drawn:=d } rfl]
    rfl
   simp[execOp,ho,Sem.run_bind,this]
  ·refine .tup rfl (fun k c hc=>?_)
   match k,hc with
   |0,hc=>simp at hc;subst hc;exact .sc _
   |1,hc=>simp at hc;subst hc;exact v1.mono q1
   |2,hc=>simp at hc;subst hc;exact v2.mono q1
   |k+3,hc=>simp at hc
end
end Go.Abs
namespace Go.Abs
open Go
section
variable{P:Program}{o:Oper}
theorem qnU{z:List LV}(h:cOp P o=some (.al z)):∃t,o.op=.alloc t/\uS P t=some z:=by
 unfold cOp at h
 split at h
 all_goals ((repeat' split at h)<;>simp[Option.map_eq_some_iff,Option.bind_eq_some_iff]at h)
 rename_i t ho _ _
 exact⟨t,ho,h⟩
theorem qxO{t e:TypeId}(h:bldO P t=some e):uS P t=some [.sc (.pointer none),.sl [] .full]:=by
 unfold bldO at h
 split at h
 ·split at h
  ·split at h
   ·split at h
    ·split at h
     ·rename_i hz;exact hz
     ·cases h
    ·cases h
   ·cases h
  ·cases h
 ·cases h
theorem qvF{t e:TypeId}(h:cOp P o=some (.nb t e)):o.op=.alloc t/\bldO P t=some e:=by
 unfold cOp at h
 split at h
 all_goals ((repeat' split at h)<;>simp[Option.map_eq_some_iff,Option.bind_eq_some_iff]at h)
 rename_i t' ho _ e' he
 obtain⟨rfl,rfl⟩:=h
 exact⟨ho,he⟩
theorem qvL{x:BO}(h:cOp P o=some (.bx x)):∃t y,o.op=.box t y/\cO y=some x:=by
 unfold cOp at h
 split at h
 all_goals ((repeat' split at h)<;>simp[Option.map_eq_some_iff,Option.bind_eq_some_iff]at h)
 rename_i t y ho
 exact⟨t,y,ho,h⟩
theorem qvB{n:Nat}{a x:BO}(h:cOp P o=some (.st n a x)):∃t y z,o.op=.store t y z/\zd P t=some n/\cO y=some a/\cO z=some x:=by
 unfold cOp at h
 split at h
 all_goals ((repeat' split at h)<;>simp[Option.map_eq_some_iff,Option.bind_eq_some_iff]at h)
 rename_i t y z ho
 obtain⟨n',h1,b1,h2,b2,h3,rfl,rfl,rfl⟩:=h
 exact⟨t,y,z,ho,h1,h2,h3⟩
theorem qvI(h:cOp P o=some .mk):∃t,o.op=.makeMap t none:=by
 unfold cOp at h
 split at h
 all_goals ((repeat' split at h)<;>simp[Option.map_eq_some_iff,Option.bind_eq_some_iff]at h)
 rename_i t ho
 exact⟨t,ho⟩
theorem qvG{e:EqK}{m k v:BO}(h:cOp P o=some (.mu e m k v)):∃t kt et x y z,(o.op=.mapUpdate t x y z\/o.op=.insert t x y z)/\P.underlying t=some (.map kt et)/\qbL P kt=some e/\cO x=some m/\cO y=some k/\cO z=some v:=by
 unfold cOp at h
 split at h
 all_goals ((repeat' split at h)<;>simp[Option.map_eq_some_iff,Option.bind_eq_some_iff]at h)
 ·rename_i t x y z ho _ kt et hu
  obtain⟨e',h1,b1,h2,b2,h3,b3,h4,rfl,rfl,rfl,rfl⟩:=h
  exact⟨t,kt,et,x,y,z,.inl ho,hu,h1,h2,h3,h4⟩
 ·rename_i t x y z ho _ kt et hu
  obtain⟨e',h1,b1,h2,b2,h3,b3,h4,rfl,rfl,rfl,rfl⟩:=h
  exact⟨t,kt,et,x,y,z,.inr ho,hu,h1,h2,h3,h4⟩
theorem qvC{x:BO}(h:cOp P o=some (.rg x)):∃t kt et y,o.op=.range t y/\P.underlying t=some (.map kt et)/\cO y=some x:=by
 unfold cOp at h
 split at h
 all_goals ((repeat' split at h)<;>simp[Option.map_eq_some_iff,Option.bind_eq_some_iff]at h)
 rename_i t y ho _ kt et hu
 exact⟨t,kt,et,y,ho,hu,h⟩
theorem qnR{x:BO}(h:cOp P o=some (.nx x)):∃y,o.op=.next y false/\cO y=some x:=by
 unfold cOp at h
 split at h
 all_goals ((repeat' split at h)<;>simp[Option.map_eq_some_iff,Option.bind_eq_some_iff]at h)
 rename_i y ho
 exact⟨y,ho,h⟩
theorem qvE{x:BO}(h:cOp P o=some (.pn x)):∃y,o.op=.panic y/\cO y=some x:=by
 unfold cOp at h
 split at h
 all_goals ((repeat' split at h)<;>simp[Option.map_eq_some_iff,Option.bind_eq_some_iff]at h)
 rename_i y ho
 exact⟨y,ho,h⟩
theorem qvK{f:FuncId}{args:List BO}(h:cOp P o=some (.cf f args)):∃c,o.op=.call c/\c.callee=.value (.func f)/\c.args.toList.mapM cO=some args:=by
 unfold cOp at h
 split at h
 all_goals ((repeat' split at h)<;>simp[Option.map_eq_some_iff,Option.bind_eq_some_iff]at h)
 rename_i g as ts ho
 obtain⟨h1,rfl⟩:=h
 exact⟨_,ho,rfl,h1⟩
theorem qnS{x:BO}{args:List BO}(h:cOp P o=some (.cl x args)):∃c y,o.op=.call c/\c.callee=.value y/\cO y=some x/\c.args.toList.mapM cO=some args:=by
 unfold cOp at h
 split at h
 all_goals ((repeat' split at h)<;>simp[Option.map_eq_some_iff,Option.bind_eq_some_iff]at h)
 rename_i y as ts _ ho
 exact⟨_,y,ho,rfl,h⟩
theorem qvJ{x:BO}{args:List BO}(h:cOp P o=some (.df x args)):∃c y,o.op=.defer c/\c.callee=.value y/\cO y=some x/\c.args.toList.mapM cO=some args:=by
 unfold cOp at h
 split at h
 all_goals ((repeat' split at h)<;>simp[Option.map_eq_some_iff,Option.bind_eq_some_iff]at h)
 rename_i y as ts ho
 exact⟨_,y,ho,rfl,h⟩
theorem qvH{z:List LV}{n:BO}(h:cOp P o=some (.ms z n)):∃t e i ti,o.op=.makeSlice t (.tmp i) (.tmp i)/\P.underlying t=some (.slice e)/\P.info? e=some ti/\ti.bytes<=2^12/\uS P e=some z/\n=.t i:=by
 unfold cOp at h
 split at h
 all_goals ((repeat' split at h)<;>simp[Option.map_eq_some_iff,Option.bind_eq_some_iff]at h)
 rename_i t _ _ _ e i j ht ho hc
 obtain⟨zs,h1,rfl,rfl⟩:=h
 obtain⟨rfl,hb⟩:=hc
 cases hti:P.info? e with
 |none=>rw[hti]at hb;simp at hb
 |some ti=>
  rw[hti]at hb
  exact⟨t,e,i,ti,ho,ht,hti,by simpa using hb,h1,rfl⟩
theorem qnT{sz:Nat}{a x:BO}(h:cOp P o=some (.ap sz a x)):∃c y z t u e ti zs,o.op=.call c/\c.callee=.builtin .append/\c.args=#[y,z]/\c.argTypes=#[t,u]/\P.underlying t=some (.slice e)/\(∃e',P.underlying u=some (.slice e')) /\
   zd P e=some sz/\P.info? e=some ti/\ti.bytes<=2^12/\uS P e=some zs/\cO y=some a/\cO z=some x:=by
 unfold cOp at h
 split at h
 all_goals ((repeat' split at h)<;>simp[Option.map_eq_some_iff,Option.bind_eq_some_iff]at h)
 rename_i args ats _ _ _ y z t u hargs hty ho _ _ e e' ht hu hcond
 obtain⟨s',h1,b1,h2,b2,h3,rfl,rfl,rfl⟩:=h
 obtain⟨ti,hti⟩:∃ti,P.info? e=some ti:=by
  cases hh:P.info? e with
  |none=>rw[hh]at hcond;simp at hcond
  |some ti=>exact⟨ti,rfl⟩
 obtain⟨zs,hz⟩:=Option.isSome_iff_exists.1 hcond.2
 have hb:=hcond.1
 rw[hti]at hb
 refine⟨_,y,z,t,u,e,ti,zs,ho,rfl,?_,?_,ht,⟨e',hu⟩,h1,hti,by simpa using hb,hz,h2,h3⟩
 ·rw[<-Array.toArray_toList (xs:=args),hargs]
 ·rw[<-Array.toArray_toList (xs:=ats),hty]
end
end Go.Abs
namespace Go.Abs
open Go
section
variable{P:Program}{E:Env}{G G':qb}{w w':World}{fr:Fr}{ρ:Operand->Value}{H H':qa}{o:Oper}
theorem qcI{i j:Nat}:∀{l:List (Nat×qc)},look j (zZ i l)=if j=i then none else look j l
 |[]=>by simp[zZ,look]
 |(k,x)::r=>by
  simp only[zZ]
  by_cases h1:i=k
  ·subst h1
   rw[if_pos rfl,qcI]
   by_cases h2:j=i
   ·simp[h2]
   ·simp[h2,look]
  ·rw[if_neg h1]
   by_cases h2:j=k
   ·subst h2
    simp[look,Ne.symm h1]
   ·simp only[look,if_neg h2]
    rw[qcI]
theorem Inv.del(hI:Inv G w H)(i:Nat):Inv G w (H.del i) where
 n:=hI.n
 hB:=hI.hB
 free:=hI.free
 old:=hI.old
 objs o x hx:=by
  have hx':look o H.objs=some x:=by
   simp only[qa.del,qcI]at hx
   split at hx
   ·cases hx
   ·exact hx
  obtain⟨h1,h2⟩:=hI.objs o x hx'
  have hdel:∀m y,look m (H.del i).objs=some y->look m H.objs=some y:=fun m y hy=>by
   simp only[qa.del,qcI]at hy
   split at hy
   ·cases hy
   ·exact hy
  refine⟨h1,?_⟩
  cases x with
  |cells=>exact h2
  |arr=>exact h2
  |map=>exact h2
  |um=>exact h2
  |tok=>exact h2
  |bld=>exact h2
  |rcd=>exact h2
  |dfr=>exact h2
  |iter m left cur n=>
   obtain⟨a,b,c⟩:=h2
   refine⟨a,b,?_⟩
   split
   ·rename_i he;rw[if_pos he]at c;exact c
   ·rename_i he;rw[if_neg he]at c
    obtain⟨seen,stepped,c1,c2,c3,c4,c5⟩:=c
    exact⟨seen,stepped,c1,c2,c3,fun es hl=>c4 es (hdel _ _ hl),fun es hl=>c5 es (hdel _ _ hl)⟩
theorem Ext.drew(G:qb)(w:World):Ext G w G w.drew:=
 ⟨rfl,rfl,rfl,Nat.le_refl _,rfl,fun _ _=>rfl,Nat.le_refl _,fun _ _=>rfl,fun _ _=>rfl,fun _ _ h=>⟨h,fun _ h=>h⟩,
  fun _ _ m b c h=>⟨m,b,c,h,Nat.le_refl _,fun _=>⟨rfl,rfl⟩⟩,rfl⟩
theorem Inv.drew(hI:Inv G w H):Inv G w.drew H where
 n:=hI.n
 hB:=hI.hB
 free:=hI.free
 old:=hI.old
 objs o x hx:=by
  obtain⟨h1,h2⟩:=hI.objs o x hx
  have hd:=Ext.drew G w
  refine⟨h1,?_⟩
  cases x with
  |cells cs=>
   obtain⟨vs,el,fz,a,b,c,d,e,f⟩:=h2
   exact⟨vs,el,fz,a,b,c,d,e,fun i c hc=>⟨(f i c hc).1.mono hd,(f i c hc).2⟩⟩
  |arr sz cs=>
   obtain⟨vs,el,fz,a,b,c,d,e,f,g⟩:=h2
   exact⟨vs,el,fz,a,b,c,d,e,f,fun i c hc=>⟨(g i c hc).1.mono hd,(g i c hc).2⟩⟩
  |map es=>
   obtain⟨ents,clock,a,b,c,d,e,f⟩:=h2
   exact⟨ents,clock,a,b,c,d,fun i kv en h1 h2=>⟨(e i kv en h1 h2).1.mono hd,(e i kv en h1 h2).2.mono hd⟩,f⟩
  |um es=>
   obtain⟨es0,hp,ents,clock,a,b,c,d,e,f⟩:=h2
   exact⟨es0,hp,ents,clock,a,b,c,d,fun i kv en h1 h2=>⟨(e i kv en h1 h2).1.mono hd,(e i kv en h1 h2).2.mono hd⟩,f⟩
  |iter m left cur n=>exact h2
  |tok n sz=>exact h2
  |bld tb te l=>exact h2
  |dfr=>exact h2
  |rcd busy fo ps k=>
   obtain⟨fn,tmps,df,a,b,c,d,e⟩:=h2
   exact⟨fn,tmps,df,a,b,c,d,fun i x hi=>(e i x hi).mono hd⟩
theorem qyd{H0:qa}(hI:Inv G w H0){cs0 ms:List LV}{L M:List Value}{sz newCap k:Nat}{rest:Array Value}{elem:TypeId}(hL:AR G w cs0 L.toArray)(hM:AR G w ms M.toArray)
  (hk:(cs0.length+ms.length)<=newCap*sz) (hkn:k<=newCap) (hsize:L.length+M.length+rest.size=newCap*sz):
  ∃G',VR G' (w.drew.alloc (.cells (L.toArray++M.toArray++rest) elem)) (.asl H0.next 0 k) (.slice (some (at_ w.heap.size 0)) k newCap) /\
   Ext G w G' (w.drew.alloc (.cells (L.toArray++M.toArray++rest) elem))/\Inv G' (w.drew.alloc (.cells (L.toArray++M.toArray++rest) elem)) (H0.alloc (.arr sz (cs0++ms))):=by
 have hA:AR G w (cs0++ms) (L++M).toArray:=hL.append hM
 have hAl:L.length+M.length=cs0.length+ms.length:=by have:=hA.1;simpa using this
 obtain⟨h1,h2⟩:=hI.drew.alloc (.cells (L.toArray++M.toArray++rest) elem) (.arr sz (cs0++ms)) (sz,newCap) (fun hx=>by
  refine⟨_,elem,(0,0),by rw[qb.add_loc];exact heap_alloc_new,by rw[qb.add_loc];exact hI.hB',?_,⟨by simp[qb.add],?_,?_⟩,fun x=>by rw[qb.add_loc];exact qb.add_own _ _ _ _ _,fun x=>by rw[qb.add_loc];exact qjA,fun i c hc=>?_⟩
  ·simp;omega
  ·simp[qb.add];omega
  ·simp[qb.add];omega
  ·have hi:=uc hc
   rw[List.length_append]at hi
   have h3:=hA.2 i c hc
   have e:(L.toArray++M.toArray++rest).getD i undef=(L++M).toArray.getD i undef:=by
    rw[Array.getD_eq_getD_getElem?,Array.getD_eq_getD_getElem?,Array.getElem?_append_left (by simp;omega)]
    simp
   rw[e]
   exact⟨(h3.1.mono (Ext.drew G w)).mono hx,h3.2⟩)
 refine⟨_,?_,(Ext.drew G w).trans h2,h1⟩
 have h:=VR.asl (G:=G.add H0.next w.drew.heap.size (sz,newCap)) (w:=w.drew.alloc (.cells (L.toArray++M.toArray++rest) elem)) (o:=H0.next) (off:=0) (len:=k) (cap:=newCap) (by simp[qb.add]) hkn (by simp[qb.add])
 rw[Nat.zero_mul]at h
 simpa [qb.add] using h
def qb.take(G:qb)(o id:Nat):qb where
 B:=G.B
 n:=id+1
 loc:=fun i=>if i=id then G.loc o else G.loc i
 asz:=fun i=>if i=id then G.asz o else G.asz i
 tk:=fun t=>if t=id then none else G.tk t
 own:=fun b x=>match G.own b x with
  |.obj j=>if j=o then .obj id else .obj j
  |l=>l
 rc:=G.rc
theorem qb.take_own(G:qb){o id b x:Nat}:(G.own b x=.obj o->(G.take o id).own b x=.obj id)/\(∀i,i≠o->G.own b x=.obj i->(G.take o id).own b x=.obj i) /\
  (∀t,G.own b x=.tok t->(G.take o id).own b x=.tok t)/\(G.own b x=.cl->(G.take o id).own b x=.cl)/\(G.own b x=.free->(G.take o id).own b x=.free):=by
 refine⟨fun h=>?_,fun i hi h=>?_,fun t h=>?_,fun h=>?_,fun h=>?_⟩<;>simp only[qb.take,h]
 ·simp
 ·simp[hi]
theorem qye(hI:Inv G w H){ob:Nat}{cs ms:List LV}{M:List Value}{sz len m cap:Nat}(hl:look ob H.objs=some (.arr sz cs))(hcap:cap<=(G.asz ob).2)(hlen:len*sz<=cs.length)
  (hM:AR G w ms M.toArray) (hMl:M.length=m*sz) (hfit:len+m<=cap):
  (∀j,j<M.length->(w.cell? (at_ (G.loc ob) (len*sz+j))).isSome=true)/\(∀j,j<M.length->w.frozen? (at_ (G.loc ob) (len*sz+j))=false) /\
  ∃G',VR G' (w.setCells (G.loc ob) (len*sz) M) (.asl H.next 0 (len+m)) (.slice (some (at_ (G.loc ob) 0)) (len+m) cap) /\
   Ext G w G' (w.setCells (G.loc ob) (len*sz) M)/\Inv G' (w.setCells (G.loc ob) (len*sz) M) ((H.del ob).alloc (.arr sz (cs.take (len*sz)++ms))):=by
 obtain⟨hob,vs,el,fz,h1,h2,h3,⟨ha1,ha2,ha3⟩,h4,h5,h6⟩:=hI.objs ob _ hl
 have hn:=hI.n
 have hsz:(len+m)*sz<=(G.asz ob).2*sz:=Nat.mul_le_mul_right _ (by omega)
 have hadd:(len+m)*sz=len*sz+m*sz:=Nat.add_mul _ _ _
 have hms:ms.length=M.length:=by have:=hM.1;simpa using this.symm
 refine⟨fun j hj=>?_,fun j _=>h5 _,G.take ob H.next,?_⟩
 ·rw[qaW h1,Array.getElem?_eq_getElem (by omega)];rfl
 obtain⟨q1,q2,q3,q4,q5,cur',q6,q7,q8⟩:=qbF (G.loc ob) M (len*sz) w vs el fz h1
 have hx:Ext G w (G.take ob H.next) (w.setCells (G.loc ob) (len*sz) M):=by
  refine Inv.ext_setCells h1 h2 (fun x e1 e2=>by rw[h4 x];simp) rfl (by simp[qb.take];omega) (fun i hi=>?_) (fun i hi=>?_) (fun k x h=>G.take_own.2.2.2.1 h) (fun t ht m b c hm=>?_)
  ·simp only[qb.take];rw[if_neg (by omega)]
  ·simp only[qb.take];rw[if_neg (by omega)]
  ·exact⟨m,b,c,by simp only[qb.take];rw[if_neg (by omega)];exact hm,Nat.le_refl _,fun _=>⟨rfl,rfl⟩⟩
 refine⟨?_,hx,?_⟩
 ·have h:=VR.asl (G:=G.take ob H.next) (w:=w.setCells (G.loc ob) (len*sz) M) (o:=H.next) (off:=0) (len:=len+m) (cap:=cap) (by simp[qb.take]) hfit (by simp[qb.take];exact hcap)
  rw[Nat.zero_mul]at h
  simpa [qb.take] using h
 ·refine Inv.step (fun i=>i=H.next\/i=ob) (hI.del ob) hx (qdd h1) (Nat.le_refl _) (fun k x hk=>?_) (fun k x hk=>?_) (fun i x hi h=>?_) (fun i k x hi hk hc=>?_) (fun _ _ _ h=>h)
   (fun i k x hi=>⟨fun h=>G.take_own.2.1 i (fun e=>hi (.inr e)) h,fun h=>G.take_own.2.2.1 i h⟩) (fun i hin hi=>by simp only[qb.take];rw[if_neg (fun e=>hi (.inl e))]) ?_ ?_
  ·rw[q2]at hk
   exact G.take_own.2.2.2.2 (hI.free k x hk)
  ·exact G.take_own.2.2.2.2 (hI.old k x hk)
  ·rw[qbm (H:=H.del ob) (fun e=>hi (.inl e))]at h
   exact h
  ·obtain⟨rfl,e1,e2⟩:=hc
   rw[h4 x]at hk
   cases hk
   exact hi (.inr rfl)
  ·intro mm es' hmn hm
   rw[qbm (H:=H.del ob) (show mm≠H.next by omega)]at hm
   refine⟨es',hm,Nat.le_refl _,fun _ ents' clock' hh=>⟨ents',clock',?_,rfl,fun _=>rfl⟩⟩
   by_cases hb:G.loc mm=G.loc ob
   ·rw[hb,q6]at hh;cases hh
   ·rw[q1 _ hb]at hh;exact hh
  ·intro i x hi h
   rcases hi with rfl|rfl
   ·have hnew:look H.next ((H.del ob).alloc (.arr sz (cs.take (len*sz)++ms))).objs=some (.arr sz (cs.take (len*sz)++ms)):=qfl (H:=H.del ob)
    rw[hnew]at h
    simp only[Option.some.injEq]at h;subst h
    refine⟨by simp[qb.take],cur',el,fz,by simp[qb.take];exact q6,by simp[qb.take];exact(by simpa using h2),?_,⟨by simp[qb.take];exact ha1,by simp[qb.take];rw[q7];exact ha2,?_⟩,fun x=>?_,fun x=>by simp[qb.take];exact(qdd h1).frozen h1 (h5 x),fun i c hc=>?_⟩
    ·simp;omega
    ·simp[qb.take];omega
    ·simp only[qb.take,if_true]
     rw[h4 x];simp
    ·by_cases hi:i<len*sz
     ·rw[List.getElem?_append_left (by simp;omega),List.getElem?_take,if_pos hi]at hc
      have:=h6 i c hc
      have e:cur'.getD i undef=vs.getD i undef:=by
       rw[Array.getD_eq_getD_getElem?,Array.getD_eq_getD_getElem?,q8,if_neg (by omega)]
      rw[e]
      exact⟨this.1.mono hx,this.2⟩
     ·rw[List.getElem?_append_right (by simp;omega)]at hc
      have hlt:=uc hc
      have hmin:min (len*sz) cs.length=len*sz:=Nat.min_eq_left hlen
      simp only[List.length_take,hmin]at hc hlt
      have:=hM.2 _ c hc
      have e:cur'.getD i undef=M.toArray.getD (i - len*sz) undef:=by
       rw[Array.getD_eq_getD_getElem?,Array.getD_eq_getD_getElem?,q8,if_pos ⟨by omega,by omega,by omega⟩]
       simp
      rw[e]
      exact⟨this.1.mono hx,this.2⟩
   ·rw[qbm (H:=H.del i) (show i≠(H.del i).next by show i≠H.next;omega)]at h
    simp[qa.del,qcI]at h
theorem qlW{l:List LV}{ow:Own}{val:Value}{K:List Value}{sz:Nat}(hV:VR G w (.sl l ow) val)(hall:(l.all fun e=>e.cells.length==sz)=true)
  (hr:(Builtin.firstCells sz l.length val).run P w=.ok K.toArray w) {w':World} (hw:∀k,k<w.heap.size->w'.heap[k]? = w.heap[k]?):
  (Builtin.firstCells sz l.length val).run P w'=.ok K.toArray w':=by
 obtain⟨bb,cc,rfl,_,_,hbb⟩:=hV.sl_inv
 rcases hbb with⟨rfl,rfl,_⟩|⟨b3,off3,sz3,xs3,rfl,r1,r2,r3⟩
 ·have e0:=qfA (P:=P) (w:=w) bb sz
  rw[show ([]:List LV).length=0 from rfl,e0]at hr
  rw[show ([]:List LV).length=0 from rfl,qfA]
  simp only[Result.ok.injEq]at hr ⊢
  exact⟨hr.1,trivial⟩
 ·obtain⟨K',hK,hKl,hKc⟩:=qin hV hall
  have run:∀w2:World,(∀k,k<l.length*sz->w2.cell? (at_ b3 (off3+k))=K'[k]?)->(Builtin.firstCells sz l.length (.slice (some (at_ b3 off3)) l.length cc)).run P w2=.ok K'.toArray w2:=by
   intro w2 hw2
   refine run_firstCells_some _ _ _ _ _ _ _ hKl (fun j v hj=>?_)
   rw[qaA,hw2 j (by have:=uc hj;omega)];exact hj
  have e0:=run w (fun k hk=>(hKc k hk).2)
  rw[hr]at e0
  simp only[Result.ok.injEq,and_true]at e0
  rw[e0]
  refine run w' (fun k hk=>?_)
  have hb3:b3<w.heap.size:=by
   have:=(hKc k hk).2
   rw[List.getElem?_eq_getElem (by omega)]at this
   rcases Nat.lt_or_ge b3 w.heap.size with h|h
   ·exact h
   ·simp[World.cell?,Array.getElem?_eq_none h]at this
  rw[qaw (hw b3 hb3)]
  exact(hKc k hk).2
theorem qtt(hI:Inv G w H){x:LV}{v:Value}{ms:List LV}{m sz:Nat}(hX:VR G w x v)(h:qca H sz x=some (ms,m)):
  ∃M:List Value,AR G w ms M.toArray/\M.length=m*sz/\ms.length=m*sz/\(∃b c,v=.slice b m c) /\
   ∀w':World,(∀k,k<w.heap.size->w'.heap[k]? = w.heap[k]?)->(Builtin.firstCells sz m v).run P w'=.ok M.toArray w':=by
 unfold qca at h
 split at h
 ·rename_i xs ow
  split at h
  ·rename_i hxs
   simp only[Option.some.injEq,Prod.mk.injEq]at h
   obtain⟨rfl,rfl⟩:=h
   obtain⟨M,hM,hMl,hMr⟩:=qeS (P:=P) hX hxs
   obtain⟨b,c,hv,_⟩:=hX.sl_inv
   exact⟨M,hM,hMl,qem (qdF hxs),⟨b,c,hv⟩,fun w' hw=>qlW hX hxs hMr hw⟩
  ·cases h
 ·rename_i ob off len
  split at h
  ·rename_i s' cs' hl
   split at h
   ·rename_i hc
    obtain⟨rfl,hlen⟩:=hc
    simp only[Option.some.injEq,Prod.mk.injEq]at h
    obtain⟨rfl,rfl⟩:=h
    obtain⟨hob,cap,hcap,hcz,hv⟩:=hX.asl_inv
    obtain⟨_,vs,el,fz,h1,h2,h3,⟨ha1,ha2,ha3⟩,h4,h5,h6⟩:=hI.objs ob _ hl
    have hadd:(off+len)*s'=off*s'+len*s':=Nat.add_mul _ _ _
    have hvl:off*s'+len*s'<=vs.size:=by omega
    rw[ha1]at hv
    refine⟨(vs.toList.drop (off*s')).take (len*s'),⟨by simp;omega,fun i c hc=>?_⟩,by simp;omega,by simp;omega,⟨_,_,hv⟩,fun w' hw=>?_⟩
    ·have hi:=uc hc
     simp at hi
     rw[List.getElem?_take,if_pos (by omega),List.getElem?_drop]at hc
     have:=h6 _ c hc
     have e:((vs.toList.drop (off*s')).take (len*s')).toArray.getD i undef=vs.getD (off*s'+i) undef:=by
      rw[Array.getD_eq_getD_getElem?,Array.getD_eq_getD_getElem?]
      simp[List.getElem?_take,List.getElem?_drop,show i<len*s' by omega]
     rw[e];exact this
    ·rw[hv]
     refine run_firstCells_some _ _ _ _ _ _ _ (by simp;omega) (fun j v hj=>?_)
     have hb:G.loc ob<w.heap.size:=qbl h1
     rw[qaA,qaw (hw _ hb),qaW h1]
     rw[List.getElem?_take]at hj
     split at hj
     ·rw[List.getElem?_drop]at hj
      simpa using hj
     ·cases hj
   ·cases h
  ·cases h
 ·cases h
theorem qwS(hI:Inv G w H)(hρ:EvR E G w fr ρ){c:Call}{s x:Operand}{bs bx:BO}{t u e:TypeId}{sz:Nat}{ti:TypeInfo}{zs:List LV}(ho:o.op=.call c)
  (hcal:c.callee=.builtin .append) (hargs:c.args=#[s,x]) (hty:c.argTypes=#[t,u])
  (ht:P.underlying t=some (.slice e)) (hu:∃e',P.underlying u=some (.slice e')) (hsz:zd P e=some sz) (hti:P.info? e=some ti) (hby:ti.bytes<=2^12) (hz:uS P e=some zs)
  (hs:cO s=some bs) (hx:cO x=some bx) {v:LV} (h:wR E fr H (.ap sz bs bx)=some (v,H')):vA P G w ρ o v H':=by
 have hS:=hρ _ _ hs
 have hX:=hρ _ _ hx
 obtain⟨zv,hzv,hzs,hzsz⟩:=qkA hz
 have hzl:zs.length=sz:=by rw[hsz]at hzsz;simpa using hzsz.symm
 have yields:∀v w',(Builtin.append_ #[t,u] o.type #[ρ s,ρ x]).run P w=.ok v w'->qcU P ρ o w v w':=by
  intro v w' h
  left
  simp[execOp,ho,resolve,hcal,hargs,hty,invoke,builtin,h]
 simp only[wR]at h
 split at h
 ·rename_i cs H0 n ms m hsrc hxe
  obtain⟨M,hM,hMl,hml,⟨base2,cap2,hv2⟩,hMf⟩:=qtt (P:=P) hI hX hxe
  have hMr:=hMf w fun _ _=>rfl
  split at h
  ·rename_i hm0
   subst hm0
   simp only[Option.some.injEq,Prod.mk.injEq]at h
   obtain⟨rfl,rfl⟩:=h
   have hM0:M=[]:=by simpa using hMl
   subst hM0
   have run0:∀(base:Option Addr)(cap:Nat),ρ s=.slice base n cap->n<=cap->(base=none\/∃b off,base=some (at_ b off))->(Builtin.append_ #[t,u] o.type #[ρ s,ρ x]).run P w=.ok (ρ s) w:=by
    intro base cap hv hle hb
    rw[hv]
    rcases hb with rfl|⟨b,off,rfl⟩
    ·exact qmo (n:=0) ht hu hsz ⟨_,_,hv2⟩ hle hMr
    ·exact qgt (n:=0) ht hu hsz ⟨_,_,hv2⟩ hle hMr rfl
   refine⟨_,w,G,yields _ _ ?_,hS,Ext.refl _ _,hI⟩
   unfold wy at hsrc
   split at hsrc
   ·rename_i es hse
    rw[hse]at hS
    split at hsrc
    ·simp only[Option.some.injEq,Prod.mk.injEq]at hsrc
     obtain⟨rfl,rfl,rfl⟩:=hsrc
     obtain⟨base,cap,hv,hcap,hown,hb⟩:=hS.sl_inv
     refine run0 base cap hv (by omega) ?_
     rcases hb with⟨_,_,rfl|h⟩|⟨b,off,_,_,rfl,_⟩
     ·exact .inl rfl
     ·cases h
     ·exact .inr ⟨b,off,rfl⟩
    ·cases hsrc
   ·rename_i ob len hse
    rw[hse]at hS
    split at hsrc
    ·split at hsrc
     ·simp only[Option.some.injEq,Prod.mk.injEq]at hsrc
      obtain⟨rfl,rfl,rfl⟩:=hsrc
      obtain⟨hob,cap,hcap,hcz,hv⟩:=hS.asl_inv
      exact run0 _ cap hv hcap (.inr ⟨_,_,rfl⟩)
     ·cases hsrc
    ·cases hsrc
   ·cases hsrc
  rename_i hm0
  split at h
  ·rename_i hc
   obtain⟨hbig,_⟩:=hc
   simp only[Option.some.injEq,Prod.mk.injEq]at h
   obtain⟨rfl,rfl⟩:=h
   have hpos:0<m:=by omega
   have grow:∀(base:Option Addr)(cap:Nat)(L:List Value),ρ s=.slice base n cap->Inv G w H0->AR G w cs L.toArray->L.length=n*sz->cs.length=n*sz->cap<n+m ->
     (∀w',(∀k,k<w.heap.size->w'.heap[k]? = w.heap[k]?)->(Builtin.firstCells sz n (.slice base n cap)).run P w'=.ok L.toArray w') ->
     vA P G w ρ o (.asl H0.next 0 (n+m)) (H0.alloc (.arr sz (cs++ms))):=by
    intro base cap L hv hI0 hL hLl hcl hlt hLr
    obtain⟨newCap,rest,r1,r2,r3⟩:=qmp (P:=P) (w:=w) (ty:=o.type) (t:=t) (u:=u) (base:=base) (sLen:=n) (sCap:=cap) (n:=m) (x:=ρ x) (L:=L) (M:=M) ht hu hsz hti hby hzv ⟨_,_,hv2⟩ hbig hlt
     hLr hMf
    rw[hzs,hzl]at r2
    have hadd:(n+m)*sz=n*sz+m*sz:=Nat.add_mul _ _ _
    have hle:(n+m)*sz<=newCap*sz:=Nat.mul_le_mul_right _ r1
    have hfl:=hml
    obtain⟨G',k1,k2,k3⟩:=qyd (elem:=e) (sz:=sz) (newCap:=newCap) (k:=n+m) (rest:=rest) hI0 hL hM (by omega) r1 (by rw[r2,Nat.sub_mul];omega)
    exact⟨_,_,G',yields _ _ (by rw[hv];exact r3),k1,k2,k3⟩
   unfold wy at hsrc
   split at hsrc
   ·rename_i es hse
    rw[hse]at hS
    split at hsrc
    ·rename_i hes
     simp only[Option.some.injEq,Prod.mk.injEq]at hsrc
     obtain⟨rfl,rfl,rfl⟩:=hsrc
     obtain⟨base,cap,hv,hcap,hown,hb⟩:=hS.sl_inv
     obtain⟨L,hL,hLl,hLr⟩:=qeS (P:=P) hS hes
     have hce:cap=es.length:=hown
     exact grow base cap L hv hI hL hLl (qem (qdF hes)) (by omega) (fun w' hw=>by have:=qlW hS hes hLr hw;rwa [hv]at this)
    ·cases hsrc
   ·rename_i ob len hse
    rw[hse]at hS
    split at hsrc
    ·rename_i s' cs' hl
     split at hsrc
     ·rename_i hc
      obtain⟨rfl,hlen⟩:=hc
      simp only[Option.some.injEq,Prod.mk.injEq]at hsrc
      obtain⟨rfl,rfl,rfl⟩:=hsrc
      obtain⟨hob,cap,hcap,hcz,hv⟩:=hS.asl_inv
      rw[Nat.zero_mul]at hv
      rw[Nat.zero_add]at hcz
      obtain⟨_,vs,el,fz,h1,h2,h3,⟨ha1,ha2,ha3⟩,h4,h5,h6⟩:=hI.objs ob _ hl
      by_cases hfit:len+m<=cap
      ·obtain⟨r1,r2,G',r3,r4,r5⟩:=qye (m:=m) (ms:=ms) hI hl hcz hlen hM hMl hfit
       have hst:=run_storeCells_cells (P:=P) (G.loc ob) (len*s') M 0 w (by simpa using r1) (by simpa using r2) (fun v hv=>by
        obtain⟨k,hk,he⟩:=List.getElem_of_mem hv
        have hk2:k<ms.length:=by omega
        have:=(hM.2 k _ (List.getElem?_eq_getElem hk2)).2
        simpa [<-he,hk] using this)
       refine⟨_,_,G',yields _ _ ?_,r3,r4,r5⟩
       rw[hv]
       exact qgt ht hu hsz ⟨_,_,hv2⟩ hfit hMr (by rw[Nat.zero_add];exact hst)
      ·have hlv:len*s'<=vs.size:=by omega
       refine grow _ cap (vs.toList.take (len*s')) hv (hI.del ob) ⟨by simp;omega,fun i c hc=>?_⟩ (by simp;omega) (by simp;omega) (by omega) (fun w' hw=>?_)
       ·have hi:=uc hc
        simp at hi
        rw[List.getElem?_take,if_pos (by omega)]at hc
        have:=h6 i c hc
        have e:(vs.toList.take (len*s')).toArray.getD i undef=vs.getD i undef:=by
         rw[Array.getD_eq_getD_getElem?,Array.getD_eq_getD_getElem?]
         simp[List.getElem?_take,show i<len*s' by omega]
        rw[e];exact this
       ·refine run_firstCells_some _ _ _ _ _ _ _ (by simp;omega) (fun j v hj=>?_)
        have hb:G.loc ob<w.heap.size:=qbl h1
        rw[qaA,qaw (hw _ hb),qaW h1,Nat.zero_add]
        rw[List.getElem?_take]at hj
        split at hj
        ·simpa using hj
        ·cases hj
     ·cases hsrc
    ·cases hsrc
   ·cases hsrc
  ·cases h
 ·cases h
theorem qrd(hI:Inv G w H)(hρ:EvR E G w fr ρ){s d e:TypeId}{x:Operand}{bx:BO}(ho:o.op=.convert s d x)(hs:P.underlying s=some (.slice e))(he:P.underlying e=some (.int .u8))(hd:P.underlying d=some .string)
  (hx:cO x=some bx) {n:Int} {own:Own} (hn:E.ev fr bx=.sl [.sc (.int .u8 n)] own):zj P G w H ρ o (.str ⟨#[UInt8.ofNat n.toNat]⟩):=by
 have h0:=hρ _ _ hx
 rw[hn]at h0
 obtain⟨M,hM,hMl,hMr⟩:=qeS (P:=P) (sz:=1) h0 rfl
 obtain⟨base,cap,hv,hcap,_,hb⟩:=h0.sl_inv
 have hM1:M=[.int .u8 n]:=by
  match M,hMl with
  |[v],_=>
   have:=(hM.2 0 (.sc (.int .u8 n)) rfl).1
   rw[this.sc_inv.symm]
   simp
 subst hM1
 refine .here hI (v:=.string ⟨#[UInt8.ofNat n.toNat]⟩) ?_ (.sc _)
 rcases hb with⟨h,_⟩|⟨b,off,sz',xs,rfl,_⟩
 ·cases h
 rw[hv]at hMr
 have hl:(loadCells (at_ b off) 1).run P w=.ok #[.int .u8 n] w:=hMr
 simp[execOp,ho,convert,Sem.run_bind,run_underlying hs,run_underlying hd,run_underlying he,hv,Conv.bytesToString,hl]
 rfl
theorem qoE{zs:List LV}:∀(n i:Nat),i<n*zs.length->(List.replicate n zs).flatten[i]? = zs[i % zs.length]?
 |0,i,h=>by simp at h
 |n+1,i,h=>by
  rw[List.replicate_succ,List.flatten_cons]
  by_cases hi:i<zs.length
  ·rw[List.getElem?_append_left hi,Nat.mod_eq_of_lt hi]
  ·rw[List.getElem?_append_right (by omega),qoE n (i - zs.length) (by rw[Nat.add_mul]at h;omega)]
   rw[<-Nat.mod_eq_sub_mod (by omega)]
theorem qwP(hI:Inv G w H)(hρ:EvR E G w fr ρ){t e:TypeId}{i:Nat}{ti:TypeInfo}{zs:List LV}(ho:o.op=.makeSlice t (.tmp i) (.tmp i))(ht:P.underlying t=some (.slice e))
  (hti:P.info? e=some ti) (hby:ti.bytes<=2^12) (hz:uS P e=some zs) {n:Nat} (hn:qR (fr i)=some n) (hbig:n<=2^30):
  vA P G w ρ o (.asl H.next 0 n) (H.alloc (.arr zs.length (List.replicate n zs).flatten)):=by
 obtain⟨zv,hzv,hA,hsz,_⟩:=qeG (P:=P) (G:=G) (w:=w) hz
 have hX:=hρ (.tmp i) (.t i) rfl
 obtain⟨k,hk⟩:=qdo hn hX
 have hzl:zv.cells.size=zs.length:=hA.1
 obtain⟨A,hAd⟩:∃A:Array Value,(Array.range (n*zs.length)).map (fun j=>(if n*zs.length=0 then #[] else zv.cells)[j % (if n*zs.length=0 then #[] else zv.cells).size]!)=A:=⟨_,rfl⟩
 have hAs:A.size=n*zs.length:=by rw[<-hAd];simp
 obtain⟨h1,h2⟩:=hI.alloc (.cells A e) (.arr zs.length (List.replicate n zs).flatten) (zs.length,n) (fun hx=>by
  refine⟨A,e,(0,0),by rw[qb.add_loc];exact heap_alloc_new,by rw[qb.add_loc];exact hI.hB',by simp[hAs],⟨by simp[qb.add],?_,?_⟩,fun x=>by rw[qb.add_loc];exact qb.add_own _ _ _ _ _,fun x=>by rw[qb.add_loc];exact qjA,fun j c hc=>?_⟩
  ·simp[qb.add,hAs]
  ·simp[qb.add,hAs]
  ·have hj:=uc hc
   simp at hj
   rw[qoE n j hj]at hc
   have h3:=hA.2 _ c hc
   have hne:n*zs.length≠0:=by omega
   have e1:A.getD j undef=zv.cells.getD (j % zs.length) undef:=by
    rw[<-hAd]
    simp only[if_neg hne,hzl]
    rw[Array.getD_eq_getD_getElem?,Array.getD_eq_getD_getElem?]
    have hlt:j % zs.length<zv.cells.size:=by rw[hzl];exact Nat.mod_lt _ (by have:=uc hc;omega)
    simp[hj,hlt]
   rw[e1]
   exact⟨h3.1.mono hx,h3.2⟩)
 have hr:(Instr.makeSlice t (ρ (.tmp i)) (ρ (.tmp i))).run P w=.ok (.slice (some (at_ w.heap.size 0)) n n) (w.alloc (.cells A e)):=by
  have hw:IntKind.i64.wrap (n:Int)=n:=by
   have e1:IntKind.i64.bits=64:=rfl
   have e2:IntKind.i64.signed=true:=rfl
   simp only[IntKind.wrap,e1,e2]
   rw[if_neg (by simp;omega)]
   omega
  have hb:(ti.bytes:Int)*(n:Int)<=2^12*2^30:=by
   have:ti.bytes*n<=2^12*2^30:=Nat.mul_le_mul hby hbig
   have h2:=Int.ofNat_le.2 this
   simpa using h2
  have hbn:¬((n:Int)<0):=by omega
  have hbb:¬((ti.bytes:Int)*(n:Int) > 2^48):=by omega
  simp only[Instr.makeSlice,Sem.run_bind,run_underlying ht,hk,asInt,qdh,Result.andThen_ok,Sem.run_pure,qbG hti,hw]
  rw[if_neg (by simp;omega)]
  have hno:(askRoom ((n:Int).toNat*ti.bytes)).run P w=.ok () w:=run_askRoom _ _ _
  have hsw:(sizeOf e).run P w=.ok zs.length w:=wh hsz w
  rw[Int.toNat_natCast]at hno
  simp only[Int.toNat_natCast,Sem.run_bind,hno,hsw,Result.andThen_ok]
  by_cases h0:n*zs.length=0
  ·rw[if_pos h0]
   rw[if_pos h0]at hAd
   simp only[Sem.run_bind,Sem.run_pure,Result.andThen_ok,newRow,run_newObj_alloc,hAd]
  ·rw[if_neg h0]
   rw[if_neg h0]at hAd
   simp only[Sem.run_bind,hzv,Sem.run_pure,Result.andThen_ok,newRow,run_newObj_alloc,hAd]
 refine⟨.slice (some (at_ w.heap.size 0)) n n,_,_,.inl ?_,?_,h2,h1⟩
 ·simp[execOp,ho,hr]
 ·have h:=VR.asl (G:=G.add H.next w.heap.size (zs.length,n)) (w:=w.alloc (.cells A e)) (o:=H.next) (off:=0) (len:=n) (cap:=n) (by simp[qb.add]) (Nat.le_refl _) (by simp[qb.add])
  rw[Nat.zero_mul]at h
  simpa [qb.add] using h
end
end Go.Abs
namespace Go.Abs
open Go
section
variable{P:Program}{E:Env}{G G':qb}{w w':World}{fr:Fr}{ρ:Operand->Value}{H H':qa}{o:Oper}
theorem qnz{α:Type}{f:Nat×Operand->Option α}{l:List (Nat×Operand)}{bl:List α}(h:l.mapM f=some bl):
  bl.length=l.length/\∀(i:Nat)(p:Nat×Operand)(b:α),l[i]? = some p->bl[i]? = some b->f p=some b:=by
 induction l generalizing bl with
 |nil=>simp at h;subst h;exact⟨rfl,fun i p b hp=>by simp at hp⟩
 |cons x l ih=>
  simp only[List.mapM_cons,Option.bind_eq_bind,Option.bind_eq_some_iff,Option.pure_def,Option.some.injEq]at h
  obtain⟨b,hb,bl',hl,rfl⟩:=h
  obtain⟨h1,h2⟩:=ih hl
  refine⟨by simp[h1],fun i p c hp hc=>?_⟩
  cases i with
  |zero=>simp at hp hc;subst hp;subst hc;exact hb
  |succ i=>exact h2 i p c (by simpa using hp) (by simpa using hc)
theorem qtq{fs:Array Field}(h:fs.toList.all (fun f=>(zd P f.type).isSome)=true):
  (fs.mapM fun f=>(do pure (f.offset,<-sizeOf f.type):Sem (Nat×Nat))).run P w=.ok (fs.toList.map fun f=>(f.offset,(zd P f.type).getD 0)).toArray w:=by
 rw[Array.mapM_eq_mapM_toList]
 generalize fs.toList=l at h
 have key:(l.mapM fun f=>(do pure (f.offset,<-sizeOf f.type):Sem (Nat×Nat))).run P w=.ok (l.map fun f=>(f.offset,(zd P f.type).getD 0)) w:=by
  induction l with
  |nil=>rfl
  |cons f l ih=>
   simp only[List.all_cons,Bool.and_eq_true]at h
   obtain⟨n,hn⟩:=Option.isSome_iff_exists.1 h.1
   simp only[List.mapM_cons,Sem.run_bind,wh hn,Result.andThen_ok,Sem.run_pure,ih h.2]
   simp[hn]
 show (Sem.bind _ _).run P w=_
 rw[Sem.run_bind',key]
 rfl
theorem qhQ(hI:Inv G w H)(hρ:EvR E G w fr ρ)(hρc:∀v,ρ (.const v)=v){bop:BOp}{x:LV}(hc:cOp P o=some bop)(hv:qz E fr H bop=some x):zj P G w H ρ o x:=by
 unfold cOp at hc
 split at hc
 ·
  rename_i y ho
  obtain⟨b,hb,rfl⟩:=Option.map_eq_some_iff.1 hc
  simp only[qz,Option.some.injEq]at hv;subst hv
  exact qkK hI hρ (.inl ho) hb
 ·rename_i y ho
  obtain⟨b,hb,rfl⟩:=Option.map_eq_some_iff.1 hc
  simp only[qz,Option.some.injEq]at hv;subst hv
  exact qkK hI hρ (.inr ho) hb
 ·
  rename_i c a b ho
  simp only[Option.bind_eq_bind,Option.bind_eq_some_iff,Option.some.injEq]at hc
  obtain⟨bc,h1,ba,h2,bb,h3,rfl⟩:=hc
  simp only[qz]at hv
  split at hv
  ·rename_i t ht
   simp only[Option.some.injEq]at hv;subst hv
   exact qqP hI hρ ho h1 h2 h3 ht
  ·cases hv
 ·
  rename_i op t a b t' ho
  split at hc
  ·split at hc
   ·rename_i hfit
    simp only[Option.bind_eq_bind,Option.bind_eq_some_iff,Option.some.injEq]at hc
    obtain⟨k,h1,ba,h2,bb,h3,rfl⟩:=hc
    simp only[qz]at hv
    obtain⟨r,hr,rfl⟩:=Option.map_eq_some_iff.1 hv
    exact qkO (neg:=false) hI hρ ho h2 h3 hfit h1 hr hρc
   ·cases hc
  ·split at hc
   ·rename_i hfit
    simp only[Option.bind_eq_bind,Option.bind_eq_some_iff,Option.some.injEq]at hc
    obtain⟨k,h1,ba,h2,bb,h3,rfl⟩:=hc
    simp only[qz]at hv
    obtain⟨r,hr,rfl⟩:=Option.map_eq_some_iff.1 hv
    exact qkO (neg:=true) hI hρ ho h2 h3 hfit h1 hr hρc
   ·cases hc
  all_goals first
   |cases hc;done
   |(simp only[Option.bind_eq_bind,Option.bind_eq_some_iff,Option.some.injEq]at hc
     obtain⟨ba,h2,bb,h3,rfl⟩:=hc
     simp only[qz]at hv
     exact qrf hI hρ ho h2 h3 (by simp) (by simp) hv)
 ·
  rename_i t a ho
  obtain⟨b,hb,rfl⟩:=Option.map_eq_some_iff.1 hc
  simp only[qz]at hv
  split at hv
  ·rename_i r hr
   simp only[Option.some.injEq]at hv;subst hv
   exact qqR hI hρ ho hb hr
  ·cases hv
 ·
  rename_i t a ho
  simp only[Option.bind_eq_bind,Option.bind_eq_some_iff,Option.some.injEq]at hc
  obtain⟨n,h1,b,h2,rfl⟩:=hc
  exact qqV hI hρ ho h1 h2 hv
 ·
  rename_i t a f ho
  split at hc
  ·rename_i fs hu
   split at hc
   ·rename_i fd hfd
    split at hc
    ·rename_i n hs
     obtain⟨b,hb,rfl⟩:=Option.map_eq_some_iff.1 hc
     obtain⟨k1,k2⟩:=qqZ (H:=H) (P:=P) hI hρ ho hu hfd hs hb
     simp only[qz]at hv
     split at hv
     ·rename_i q k hq
      simp only[Option.some.injEq]at hv;subst hv
      exact k1 _ _ hq
     ·rename_i cs k hq
      simp only[Option.some.injEq]at hv;subst hv
      exact k2 _ _ hq
     ·cases hv
    ·cases hc
   ·cases hc
  ·cases hc
 ·
  rename_i t a f ho
  split at hc
  ·rename_i fs hu
   split at hc
   ·rename_i fd hfd
    simp only[Option.bind_eq_bind,Option.bind_eq_some_iff,Option.some.injEq]at hc
    obtain⟨n,h1,b,h2,rfl⟩:=hc
    simp only[qz]at hv
    split at hv
    ·rename_i cs hcs
     exact qqY hI hρ ho hu hfd h1 h2 hcs hv
    ·cases hv
   ·cases hc
  ·cases hc
 ·
  rename_i t a i ho
  split at hc
  ·rename_i e hu
   simp only[Option.bind_eq_bind,Option.bind_eq_some_iff,Option.some.injEq]at hc
   obtain⟨s,h1,b,h2,bi,h3,rfl⟩:=hc
   simp only[qz]at hv
   split at hv
   ·rename_i es own n hes hn
    obtain⟨k1,_⟩:=qkN (H:=H) (P:=P) hI hρ ho hu h1 h2 h3 hn
    split at hv
    ·rename_i el hel
     split at hv
     ·rename_i hsz
      simp only[Option.some.injEq]at hv;subst hv
      exact k1 _ _ _ hes hel hsz
     ·cases hv
    ·cases hv
   ·rename_i q off len n hes hn
    obtain⟨_,k2⟩:=qkN (H:=H) (P:=P) hI hρ ho hu h1 h2 h3 hn
    split at hv
    ·rename_i sz cs hl
     split at hv
     ·rename_i hsz
      simp only[Option.some.injEq]at hv;subst hv
      exact k2 _ _ _ _ _ hes hsz.1 hl hsz.2
     ·cases hv
    ·cases hv
   ·cases hv
  ·rename_i n e hu
   simp only[Option.bind_eq_bind,Option.bind_eq_some_iff,Option.some.injEq]at hc
   obtain⟨s,h1,b,h2,bi,h3,rfl⟩:=hc
   simp only[qz]at hv
   split at hv
   ·rename_i q k m hq hn
    split at hv
    ·rename_i hlt
     simp only[Option.some.injEq]at hv;subst hv
     exact(qkM hI hρ ho hu h1 h2 h3 hn hlt).1 _ _ hq
    ·cases hv
   ·rename_i cs k m hq hn
    split at hv
    ·rename_i hlt
     simp only[Option.some.injEq]at hv;subst hv
     exact(qkM hI hρ ho hu h1 h2 h3 hn hlt).2 _ _ hq
    ·cases hv
   ·cases hv
  ·cases hc
 ·
  rename_i t a i ho
  split at hc
  ·rename_i hu
   simp only[Option.bind_eq_bind,Option.bind_eq_some_iff,Option.some.injEq]at hc
   obtain⟨b,h2,bi,h3,rfl⟩:=hc
   simp only[qz]at hv
   split at hv
   ·rename_i s n hs hn _
    obtain⟨c,hcb,rfl⟩:=Option.map_eq_some_iff.1 hv
    exact qqW hI hρ ho hu h2 h3 hn hs hcb
   ·simp_all
   ·cases hv
  ·rename_i n e hu
   split at hc
   ·rename_i hn0
    simp only[Option.bind_eq_bind,Option.bind_eq_some_iff,Option.some.injEq]at hc
    obtain⟨b,h2,bi,h3,rfl⟩:=hc
    simp only[qz]at hv
    split at hv
    ·simp_all
    ·rename_i cs m m' hs hn hm
     split at hv
     ·rename_i hlt
      simp only[Option.some.injEq]at hm;subst hm
      exact qqX hI hρ ho hu hn0 h2 h3 hn hlt hs hv
     ·cases hv
    ·cases hv
   ·cases hc
  ·cases hc
 ·
  rename_i t a l h ho
  split at hc
  ·rename_i hu
   simp only[Option.bind_eq_bind,Option.bind_eq_some_iff,Option.some.injEq]at hc
   obtain⟨b,h2,bl,h3,bh,h4,rfl⟩:=hc
   simp only[qz]at hv
   split at hv
   ·rename_i n hn
    split at hv
    ·rename_i p q hp hq
     unfold zC at hv
     split at hv
     ·rename_i s _ hs
      split at hv
      ·rename_i hle
       simp only[Option.some.injEq]at hv;subst hv
       rw[hs]at hn
       simp only[qV,Option.some.injEq]at hn;subst hn
       exact qqM hI hρ ho hu h2 h3 h4 hs hp hq hle.1 hle.2
      ·cases hv
     ·simp_all
     ·simp_all
     ·simp_all
     ·cases hv
    ·cases hv
   ·cases hv
  ·rename_i e hu
   simp only[Option.bind_eq_bind,Option.bind_eq_some_iff,Option.some.injEq]at hc
   obtain⟨s,h1,b,h2,bl,h3,bh,h4,rfl⟩:=hc
   simp only[qz]at hv
   split at hv
   ·rename_i n hn
    split at hv
    ·rename_i p q hp hq
     unfold zC at hv
     split at hv
     ·simp_all
     ·rename_i es own _ hs
      split at hv
      ·rename_i hle
       simp only[Option.some.injEq]at hv;subst hv
       rw[hs]at hn
       simp only[qV,Option.some.injEq]at hn;subst hn
       exact qqN hI hρ ho hu h1 h2 h3 h4 hs hp hq hle.1 hle.2.1 hle.2.2
      ·cases hv
     ·rename_i q' off len _ hs
      split at hv
      ·rename_i hle
       simp only[Option.some.injEq]at hv;subst hv
       rw[hs]at hn
       simp only[qV,Option.some.injEq]at hn;subst hn
       obtain⟨rfl,hle⟩:=hle
       exact qqO hI hρ ho hu h1 h2 h3 h4 hs hp hq hle
      ·cases hv
     ·simp_all
     ·cases hv
    ·cases hv
   ·cases hv
  ·cases hc
 ·
  rename_i s d a ho
  split at hc
  ·rename_i k' k h1 h2
   obtain⟨b,hb,rfl⟩:=Option.map_eq_some_iff.1 hc
   simp only[qz]at hv
   split at hv
   ·rename_i j n hn
    simp only[Option.some.injEq]at hv;subst hv
    exact qrc hI hρ ho h1 h2 hb hn
   ·cases hv
  ·rename_i h1 h2
   obtain⟨b,hb,rfl⟩:=Option.map_eq_some_iff.1 hc
   simp only[qz]at hv
   split at hv
   ·rename_i s hs
    simp only[Option.some.injEq]at hv;subst hv
    exact qrb hI hρ ho h1 h2 hb hs
   ·cases hv
  ·rename_i e h1 h2
   split at hc
   ·rename_i he
    obtain⟨b,hb,rfl⟩:=Option.map_eq_some_iff.1 hc
    simp only[qz,y5]at hv
    split at hv
    ·rename_i n hn
     unfold zC at hv
     split at hv
     ·simp_all
     ·simp_all
     ·simp_all
     ·rename_i m own _ hs
      simp only[Option.some.injEq]at hv;subst hv
      exact qrd hI hρ ho h1 he h2 hb hs
     ·cases hv
    ·cases hv
   ·cases hc
  ·cases hc
 ·
  split at hc
  ·split at hc
   ·obtain⟨zs,_,rfl⟩:=Option.map_eq_some_iff.1 hc
    simp[qz]at hv
   ·cases hc
  ·cases hc
 ·
  rename_i t a ho
  split at hc
  ·cases hc
  ·rename_i d hne hd
   obtain⟨b,hb,rfl⟩:=Option.map_eq_some_iff.1 hc
   simp only[qz,Option.some.injEq]at hv;subst hv
   exact qqS hI hρ ho hb hd hne
  ·cases hc
 ·
  rename_i f a b ho
  simp only[Option.bind_eq_bind,Option.bind_eq_some_iff,Option.some.injEq]at hc
  obtain⟨ba,h1,bb,h2,rfl⟩:=hc
  simp only[qz,Option.some.injEq]at hv;subst hv
  exact qqT hI hρ ho h1 h2
 ·
  rename_i a i ho
  obtain⟨b,hb,rfl⟩:=Option.map_eq_some_iff.1 hc
  simp only[qz]at hv
  split at hv
  ·rename_i vs hvs
   exact qqK hI hρ ho hb hvs hv
  ·cases hv
 ·
  rename_i t n ps ho
  split at hc
  ·rename_i e hu
   split at hc
   ·rename_i s hs
    split at hc
    ·rename_i hcond
     simp only[Option.bind_eq_bind,Option.bind_eq_some_iff,Option.some.injEq]at hc
     obtain⟨bl,hbl,rfl⟩:=hc
     simp only[qz]at hv
     split at hv
     ·rename_i hall
      simp only[Option.some.injEq]at hv;subst hv
      obtain⟨zs,hz⟩:=Option.isSome_iff_exists.1 hcond.2.2.2.1
      exact qre hI hρ ho hu hs hcond.1 hcond.2.1 hcond.2.2.1 hz hcond.2.2.2.2 hbl hall
     ·cases hv
    ·cases hc
   ·cases hc
  ·cases hc
 ·
  rename_i t ps ho
  split at hc
  ·rename_i fs zs hu hz
   split at hc
   ·rename_i hall
    simp only[Option.bind_eq_bind,Option.bind_eq_some_iff,Option.some.injEq]at hc
    obtain⟨bps,hb,rfl⟩:=hc
    simp only[qz]at hv
    obtain⟨cs,hcs,rfl⟩:=Option.map_eq_some_iff.1 hv
    obtain⟨q1,q2⟩:=qnz hb
    have hpm:(ps.map fun x=>(x.1,ρ x.2)).toList=ps.toList.map fun p=>(p.1,ρ p.2):=by simp
    refine qkP (place:=fun i=>((fs.toList.map fun f=>(f.offset,(zd P f.type).getD 0))[i]?)) hI hρ ho hz (by simpa using q1.symm) (fun k p q hp hq=>?_) (fun zv cells hzv hfill=>?_) hcs
    ·have:=q2 k p q hp hq
     unfold qmX at this
     split at this
     ·rename_i f hf
      split at this
      ·rename_i n x hn hx
       simp only[Option.some.injEq]at this;subst this
       refine⟨?_,hx⟩
       have hf':fs.toList[p.1]? = some f:=by rw[Array.getElem?_toList];exact hf
       simp[hf',hn]
      ·cases this
     ·cases this
    ·have hm:(fs.mapM fun f=>(do pure (f.offset,<-sizeOf f.type):Sem (Nat×Nat))).run P w=.ok (fs.toList.map fun f=>(f.offset,(zd P f.type).getD 0)).toArray w:=qtq hall
     simp only[Instr.build,Sem.run_bind,hzv,run_underlying hu,Result.andThen_ok,hm,hpm]
     have hfun:(fun x:Nat=>(fs.toList.map fun f=>(f.offset,(zd P f.type).getD 0)).toArray[x]?)=fun i=>((fs.toList.map fun f=>(f.offset,(zd P f.type).getD 0))[i]?):=by
      funext i;simp
     rw[hfun,hfill]
     rfl
   ·cases hc
  ·rename_i n e zs hu hz
   simp only[Option.bind_eq_bind,Option.bind_eq_some_iff,Option.some.injEq]at hc
   obtain⟨s,hs,bps,hb,rfl⟩:=hc
   simp only[qz]at hv
   obtain⟨cs,hcs,rfl⟩:=Option.map_eq_some_iff.1 hv
   obtain⟨q1,q2⟩:=qnz hb
   have hpm:(ps.map fun x=>(x.1,ρ x.2)).toList=ps.toList.map fun p=>(p.1,ρ p.2):=by simp
   refine qkP (place:=fun i=>some (i*s,s)) hI hρ ho hz (by simpa using q1.symm) (fun k p q hp hq=>?_) (fun zv cells hzv hfill=>?_) hcs
   ·have:=q2 k p q hp hq
    unfold qmY at this
    obtain⟨x,hx,rfl⟩:=Option.map_eq_some_iff.1 this
    exact⟨rfl,hx⟩
   ·simp only[Instr.build,Sem.run_bind,hzv,run_underlying hu,Result.andThen_ok,wh hs,hpm]
    rw[hfill]
    rfl
  ·cases hc
 ·
  rename_i a ho
  obtain⟨b,hb,rfl⟩:=Option.map_eq_some_iff.1 hc
  simp only[qz]at hv
  split at hv
  ·rename_i q k hq
   simp only[Option.some.injEq]at hv;subst hv
   rw[<-hq]
   exact qkJ hI hρ ho hb (.inl ⟨_,_,hq⟩)
  ·rename_i cs k hq
   simp only[Option.some.injEq]at hv;subst hv
   rw[<-hq]
   exact qkJ hI hρ ho hb (.inr ⟨_,_,hq⟩)
  ·cases hv
 ·
  rename_i t a i ok ho
  split at hc
  ·rename_i kt et hu
   simp only[Option.bind_eq_bind,Option.bind_eq_some_iff,Option.some.injEq]at hc
   obtain⟨e,h1,z,h2,b,h3,bi,h4,rfl⟩:=hc
   simp only[qz]at hv
   split at hv
   ·rename_i hself
    obtain⟨k1,k2,k3⟩:=qqU (H:=H) (P:=P) hI hρ ho hu h1 h2 h3 h4 hself
    split at hv
    ·rename_i hn
     simp only[Option.some.injEq]at hv;subst hv
     exact k1 hn
    ·rename_i m hm
     split at hv
     ·rename_i es hl
      split at hv
      ·rename_i v hf
       simp only[Option.some.injEq]at hv;subst hv
       exact k3 _ _ _ hm (hI.objs _ _ hl).2 hf
      ·rename_i hf
       simp only[Option.some.injEq]at hv;subst hv
       exact k2 _ _ hm (hI.objs _ _ hl).2 hf
      ·cases hv
     ·rename_i es hl
      obtain⟨_,es0,hp,hM⟩:=hI.objs _ _ hl
      rw[<-qwp hp]at hv
      split at hv
      ·rename_i v hf
       simp only[Option.some.injEq]at hv;subst hv
       exact k3 _ _ _ hm hM (qjH hf)
      ·rename_i hf
       simp only[Option.some.injEq]at hv;subst hv
       exact k2 _ _ hm hM (qjH hf)
      ·cases hv
     ·cases hv
    ·cases hv
   ·cases hv
  ·cases hc
 ·
  rename_i a xt t ho
  split at hc
  ·cases hc
  ·rename_i d hne hd
   simp only[Option.bind_eq_bind,Option.bind_eq_some_iff,Option.some.injEq]at hc
   obtain⟨z,h1,b,h2,rfl⟩:=hc
   simp only[qz]at hv
   obtain⟨k1,k2⟩:=qqL (H:=H) (P:=P) hI hρ ho hd hne h1 h2
   split at hv
   ·rename_i u v hu
    simp only[Option.some.injEq]at hv;subst hv
    exact k1 _ _ hu
   ·rename_i hu
    simp only[Option.some.injEq]at hv;subst hv
    exact k2 hu
   ·cases hv
  ·cases hc
 ·
  rename_i a ho
  obtain⟨b,hb,rfl⟩:=Option.map_eq_some_iff.1 hc
  simp only[qz]at hv
  split at hv
  ·rename_i q hq
   split at hv
   ·rename_i m left i n hl
    split at hv
    ·rename_i es hm
     split at hv
     ·rename_i hn
      obtain⟨kv,hkv,rfl⟩:=Option.map_eq_some_iff.1 hv
      exact qra hI hρ ho hb hq hl hm hn hkv
     ·cases hv
    ·cases hv
   ·cases hv
  ·cases hv
 ·split at hc
  ·simp only[Option.some.injEq]at hc;subst hc;cases hv
  ·obtain⟨b,hb,rfl⟩:=Option.map_eq_some_iff.1 hc;cases hv
 ·obtain⟨b,hb,rfl⟩:=Option.map_eq_some_iff.1 hc;cases hv
 ·simp only[Option.bind_eq_bind,Option.bind_eq_some_iff,Option.some.injEq]at hc
  obtain⟨_,_,_,_,_,_,rfl⟩:=hc;cases hv
 ·simp only[Option.some.injEq]at hc;subst hc;cases hv
 ·split at hc
  ·simp only[Option.bind_eq_bind,Option.bind_eq_some_iff,Option.some.injEq]at hc
   obtain⟨_,_,_,_,_,_,_,_,rfl⟩:=hc;cases hv
  ·cases hc
 ·split at hc
  ·simp only[Option.bind_eq_bind,Option.bind_eq_some_iff,Option.some.injEq]at hc
   obtain⟨_,_,_,_,_,_,_,_,rfl⟩:=hc;cases hv
  ·cases hc
 ·split at hc
  ·obtain⟨b,hb,rfl⟩:=Option.map_eq_some_iff.1 hc;cases hv
  ·cases hc
 ·obtain⟨b,hb,rfl⟩:=Option.map_eq_some_iff.1 hc;cases hv
 ·obtain⟨b,hb,rfl⟩:=Option.map_eq_some_iff.1 hc;cases hv
 ·
  rename_i bi args argTypes ho
  split at hc
  ·rename_i a t hargs hty
   have ha:args=#[a]:=by rw[<-Array.toArray_toList (xs:=args),hargs]
   have ht:argTypes[0]? = some t:=by rw[<-Array.toArray_toList (xs:=argTypes),hty];rfl
   subst ha
   split at hc
   ·rename_i hu
    obtain⟨b,hb,rfl⟩:=Option.map_eq_some_iff.1 hc
    simp only[qz]at hv
    obtain⟨n,hn,rfl⟩:=Option.map_eq_some_iff.1 hv
    exact qhP (k:=0) hI hρ ho rfl rfl ht hu hb hn
   ·rename_i e hu
    obtain⟨b,hb,rfl⟩:=Option.map_eq_some_iff.1 hc
    simp only[qz]at hv
    obtain⟨n,hn,rfl⟩:=Option.map_eq_some_iff.1 hv
    exact qhP (k:=1) hI hρ ho rfl rfl ht ⟨e,hu⟩ hb hn
   ·rename_i k e hu
    obtain⟨b,hb,rfl⟩:=Option.map_eq_some_iff.1 hc
    simp only[qz]at hv
    obtain⟨n,hn,rfl⟩:=Option.map_eq_some_iff.1 hv
    exact qhP (k:=2) hI hρ ho rfl rfl ht ⟨k,e,hu⟩ hb hn
   ·cases hc
  ·split at hc
   ·split at hc
    ·simp only[Option.bind_eq_bind,Option.bind_eq_some_iff,Option.some.injEq]at hc
     obtain⟨_,_,_,_,_,_,rfl⟩:=hc;cases hv
    ·cases hc
   ·cases hc
  ·rename_i _ a b hargs
   have ha:args=#[a,b]:=by rw[<-Array.toArray_toList (xs:=args),hargs]
   subst ha
   simp only[Option.bind_eq_bind,Option.bind_eq_some_iff,Option.some.injEq]at hc
   obtain⟨ba,h2,bb,h3,rfl⟩:=hc
   simp only[qz]at hv
   split at hv
   ·rename_i k m k' n hm hn
    split at hv
    ·rename_i hk
     subst hk
     simp only[Option.some.injEq]at hv;subst hv
     exact qkL (mx:=false) hI hρ ho rfl rfl h2 h3 hm hn
    ·cases hv
   ·cases hv
  ·rename_i _ a b hargs
   have ha:args=#[a,b]:=by rw[<-Array.toArray_toList (xs:=args),hargs]
   subst ha
   simp only[Option.bind_eq_bind,Option.bind_eq_some_iff,Option.some.injEq]at hc
   obtain⟨ba,h2,bb,h3,rfl⟩:=hc
   simp only[qz]at hv
   split at hv
   ·rename_i k m k' n hm hn
    split at hv
    ·rename_i hk
     subst hk
     simp only[Option.some.injEq]at hv;subst hv
     exact qkL (mx:=true) hI hρ ho rfl rfl h2 h3 hm hn
    ·cases hv
   ·cases hv
  ·simp only[Option.some.injEq]at hc;subst hc;cases hv
  ·cases hc
 ·obtain⟨b,hb,rfl⟩:=Option.map_eq_some_iff.1 hc;cases hv
 ·simp only[Option.bind_eq_bind,Option.bind_eq_some_iff,Option.some.injEq]at hc
  obtain⟨_,_,_,_,rfl⟩:=hc;cases hv
 ·simp only[Option.bind_eq_bind,Option.bind_eq_some_iff,Option.some.injEq]at hc
  obtain⟨_,_,_,_,rfl⟩:=hc;cases hv
 ·cases hc
theorem qwY(hI:Inv G w H)(hρ:EvR E G w fr ρ){bop:BOp}{x:LV}(hc:cOp P o=some bop)(hv:uo E fr H bop=some (x,H')):vA P G w ρ o x H':=by
 cases bop<;>simp only[uo]at hv<;>try (cases hv;done)
 ·
  obtain⟨t,ho,hz⟩:=qnU hc
  simp only[Option.some.injEq,Prod.mk.injEq]at hv
  obtain⟨rfl,rfl⟩:=hv
  exact qwU hI ho hz
 ·obtain⟨t,y,ho,hx⟩:=qvL hc
  split at hv
  ·rename_i hw
   simp only[Option.some.injEq,Prod.mk.injEq]at hv
   obtain⟨rfl,rfl⟩:=hv
   exact qwR hI hρ ho hx hw
  ·cases hv
 ·obtain⟨t,y,z,ho,hn,hy,hz⟩:=qvB hc
  split at hv
  ·rename_i q off hq
   split at hv
   ·rename_i cs hl
    split at hv
    ·rename_i hcond
     simp only[Option.some.injEq,Prod.mk.injEq]at hv
     obtain⟨rfl,rfl⟩:=hv
     exact(qpm hI hρ ho hn hy hz hq hcond.1 hcond.2.1).1 _ hl hcond.2.2
    ·cases hv
   ·rename_i sz cs hl
    split at hv
    ·rename_i hcond
     simp only[Option.some.injEq,Prod.mk.injEq]at hv
     obtain⟨rfl,rfl⟩:=hv
     exact(qpm hI hρ ho hn hy hz hq hcond.1 hcond.2.1).2 _ _ hl hcond.2.2
    ·cases hv
   ·cases hv
  ·cases hv
 ·
  obtain⟨c,y,z,t,u,e,ti,zs,ho,hcal,hargs,hty,ht,hu,hsz,hti,hby,hz,hy,hx⟩:=qnT hc
  split at hv
  ·rename_i es own xs ownx hes hxs
   split at hv
   ·rename_i hall
    simp only[Bool.and_eq_true]at hall
    split at hv
    ·rename_i hcond
     obtain⟨k1,k2⟩:=qwT hI hρ ho hcal hargs hty ht hu hsz hti hby hz hy hx hes hxs hall.1 hall.2 hcond.1 hcond.2.2
     split at hv
     ·rename_i i
      simp only[Option.some.injEq,Prod.mk.injEq]at hv
      obtain⟨rfl,rfl⟩:=hv
      exact k1 _ rfl
     ·rename_i hno
      simp only[Option.some.injEq,Prod.mk.injEq]at hv
      obtain⟨rfl,rfl⟩:=hv
      have:own=.full:=by
       cases own with
       |no=>simp[vd]at hcond
       |full=>rfl
       |tok i=>exact absurd rfl (hno i)
      exact k2 this
    ·cases hv
   ·cases hv
  ·cases hv
 ·
  obtain⟨t,ho⟩:=qvI hc
  simp only[Option.some.injEq,Prod.mk.injEq]at hv
  obtain⟨rfl,rfl⟩:=hv
  exact qwQ hI ho
 ·
  obtain⟨ho,hb⟩:=qvF hc
  simp only[Option.some.injEq,Prod.mk.injEq]at hv
  obtain⟨rfl,rfl⟩:=hv
  exact qwN hI ho (qxO hb)
 ·
  obtain⟨t,kt,et,x',y,z,ho,ht,hk,h1,h2,h3⟩:=qvG hc
  split at hv
  ·rename_i q hq
   split at hv
   ·rename_i es hl
    split at hv
    ·cases hv
    ·rename_i hself
     obtain⟨es',hs,he⟩:=Option.map_eq_some_iff.1 hv
     simp only[Prod.mk.injEq]at he
     obtain⟨rfl,rfl⟩:=he
     exact qwO hI hρ ho ht hk h1 h2 h3 (by simpa [Option.isSome_iff_ne_none] using hself) hq hl hs
   ·cases hv
  ·cases hv
 ·
  obtain⟨t,e,i,ti,ho,ht,hti,hby,hz,rfl⟩:=qvH hc
  obtain⟨n,hn,hv⟩:=Option.bind_eq_some_iff.1 hv
  split at hv
  ·rename_i hbig
   simp only[Option.some.injEq,Prod.mk.injEq]at hv
   obtain⟨rfl,rfl⟩:=hv
   exact qwP hI hρ ho ht hti hby hz hn hbig
  ·cases hv
 ·
  obtain⟨t,kt,et,y,ho,ht,hx⟩:=qvC hc
  split at hv
  ·rename_i hn
   simp only[Option.some.injEq,Prod.mk.injEq]at hv
   obtain⟨rfl,rfl⟩:=hv
   exact qwK hI hρ ho ht hx hn
  ·rename_i m hm
   split at hv
   ·rename_i es hl
    simp only[Option.some.injEq,Prod.mk.injEq]at hv
    obtain⟨rfl,rfl⟩:=hv
    exact qwL hI hρ ho ht hx hm hl
   ·cases hv
  ·cases hv
theorem qxc(hI:Inv G w H)(hρ:EvR E G w fr ρ){bop:BOp}{x:LV}(hc:cOp P o=some bop)(hv:wR E fr H bop=some (x,H')):vA P G w ρ o x H':=by
 cases bop<;>try (simp[wR]at hv;done)
 obtain⟨c,y,z,t,u,e,ti,zs,h1,h2,h3,h4,h5,h6,h7,h8,h9,h10,h11,h12⟩:=qnT hc
 exact qwS hI hρ h1 h2 h3 h4 h5 h6 h7 h8 h9 h10 h11 h12 hv
theorem qpn(hI:Inv G w H)(hρ:EvR E G w fr ρ){bop:BOp}{x:LV}(hc:cOp P o=some bop)(hv:qae E fr H bop x H'):vA P G w ρ o x H':=
 hv.elim (qwY hI hρ hc) (qxc hI hρ hc)
end
end Go.Abs
namespace Go.Abs
open Go
theorem Inv.wk{G:qb}{w:World}{H H':qa}(hI:Inv G w H)(h:HWk H H'):Inv G w H' where
 n:=Nat.le_trans hI.n h.1
 hB:=hI.hB
 free:=hI.free
 old:=hI.old
 objs o x hx:=by
  obtain⟨h1,h2⟩:=hI.objs o x (h.2 o x hx)
  refine⟨h1,?_⟩
  cases x with
  |cells=>exact h2
  |arr=>exact h2
  |map=>exact h2
  |um=>exact h2
  |tok=>exact h2
  |bld=>exact h2
  |rcd=>exact h2
  |dfr=>exact h2
  |iter m left cur n=>
   obtain⟨a,b,c⟩:=h2
   refine⟨a,b,?_⟩
   split
   ·rename_i he;rw[if_pos he]at c;exact c
   ·rename_i he;rw[if_neg he]at c
    obtain⟨seen,stepped,c1,c2,c3,c4,c5⟩:=c
    exact⟨seen,stepped,c1,c2,c3,fun es hl=>c4 es (h.2 _ _ hl),fun es hl=>c5 es (h.2 _ _ hl)⟩
theorem FR.wk{G:qb}{w:World}{N:Nat}{fr fr':Fr}{a:Act}(hf:FR G w N fr a)(h:FWk fr fr'):FR G w N fr' a:=
 ⟨hf.size,fun k=>(hf.slot k).wk (h k)⟩
theorem qbk(a:Act)(d:Option Tmp)(v:Value):(a.put d v).defers=a.defers:=by cases d<;>rfl
def uR(G:qb)(w:World)(vs:List LV)(us:Array Value):Prop:=us.size=vs.length/\∀(i:Nat)(x:LV),vs[i]? = some x->VR G w x (us.getD i undef)
def ExR(G:qb)(w:World):qaG->Exit->Prop
 |.normal,.normal=>True
 |.exit n,.exit m=>n=m
 |.ret,.ret=>True
 |.pan v,.panic ch=>∃u,ch=[{ v:=u,recovered:=false }]/\VR G w v u
 |_,_=>False
def we(G:qb)(w:World)(N:Nat)(ds:List Deferred)(S:Res->Prop):Exit->Act->World->Prop:=fun e a' w'=>
 ∃le fr' df' H' G',S (.code le fr' df' H')/\ExR G' w' le e/\Inv G' w' H'/\FR G' w' N fr' a'/\a'.defers=ds/\Ext G w G' w'
theorem we.from{G G₁:qb}{w w₁:World}{N:Nat}{ds:List Deferred}{S:Res->Prop}{e:Exit}{a':Act}{w':World}(hE:Ext G w G₁ w₁)(h:we G₁ w₁ N ds S e a' w'):
  we G w N ds S e a' w':=by
 obtain⟨le,fr',df',H',G',h1,h2,h3,h4,h5,h6⟩:=h
 exact⟨le,fr',df',H',G',h1,h2,h3,h4,h5,hE.trans h6⟩
def qkz(G:qb)(w:World)(S:Res->Prop):Ending->World->Prop
 |.returned u,w'=>∃v H' G',S (.ret v H')/\VR G' w' v u/\Inv G' w' H'/\Ext G w G' w'
 |.panicked ch,w'=>∃v u H' G',S (.pan v H')/\ch=[{ v:=u,recovered:=false }]/\VR G' w' v u/\Inv G' w' H'/\Ext G w G' w'
 |.outgrown,_=>False
def qcZ(P:Program)(f:FuncId):Prop:=∃fn,P.funcs[f]? = some fn/\fn.body.isSome=true/\fn.name ≠ "runtime.NumGoroutine"
def qZ(P:Program)(E:Env)(f:FuncId)(args:List LV)(H:qa)(S:Res->Prop):Prop:=
 qcZ P f/\∀(G:qb)(w:World)(us:Array Value),Inv G w H->yX E G w->uR G w args us->Calls P f us w (qkz G w S)
def qaE(P:Program)(E:Env)(b:List BI)(fr:Fr)(H:qa)(S:Res->Prop):Prop:=
 ∀(ro:Option Nat)(nf N:Nat)(ops:Array Oper)(ol:List Oper)(G:qb)(w:World)(a:Act)(Q:Exit->Act->World->Prop),ol.mapM (cI P N ops)=some b->Inv G w H->yX E G w->FR G w N fr a ->
  (∀e a' w',we G w N a.defers S e a' w'->Q e a' w')->wpListIn (fen ro) nf P ops Q ol a w
section
variable{P:Program}{E:Env}{G:qb}{w:World}{fr:Fr}{H:qa}{N:Nat}{a:Act}{ops:Array Oper}{o:Oper}
theorem wU{b:BI}(h:cI P N ops o=some b):(b.op≠.bad->cOp P o=some b.op)/\b.d=o.dst/\o.dst.all (·<N)=true /\
  ((o.guard=none/\b.g=none)\/∃j t d,o.guard=some (j,t)/\(ops[j]?).bind (·.dst)=some d/\b.g=some (d,t)):=by
 unfold cI at h
 have key:((cOp P o).getD .bad≠.bad->cOp P o=some ((cOp P o).getD .bad)):=by
  cases hop:cOp P o with
  |none=>intro h;exact absurd rfl h
  |some op=>intro _;rfl
 cases hg:o.guard with
 |none=>
  simp only[hg,Option.bind_eq_bind,Option.bind_some]at h
  split at h
  ·rename_i hd
   simp at h;subst h
   exact⟨key,rfl,hd,.inl ⟨rfl,rfl⟩⟩
  ·cases h
 |some jt=>
  obtain⟨j,t⟩:=jt
  cases hj:(ops[j]?).bind (·.dst) with
  |none=>simp[hg,hj]at h
  |some d=>
   simp only[hg,hj,Option.bind_eq_bind,Option.bind_some]at h
   split at h
   ·rename_i hd
    simp at h;subst h
    exact⟨key,rfl,hd,.inr ⟨j,t,d,rfl,hj,rfl⟩⟩
   ·cases h
theorem qkQ{H:qa}{op:BOp}{v:LV}(h:qz E fr H op=some v):op≠.bad:=by rintro rfl;simp[qz]at h
theorem qpo{H H':qa}{op:BOp}{v:LV}(h:qae E fr H op v H'):op≠.bad:=by rintro rfl;rcases h with h|h<;>simp[uo,wR]at h
theorem qpU{op:BOp}{r:FuncId×List LV}(h:vy E fr op=some r):op≠.bad:=by rintro rfl;simp[vy]at h
theorem qrn{x:Array Value}{d:Nat}{b:Bool}(h:x.getD d undef=.bool b):x[d]? = some (.bool b):=by
 rw[Array.getD_eq_getD_getElem?]at h
 cases hx:x[d]? with
 |none=>rw[hx]at h;simp[undef]at h
 |some v=>rw[hx]at h;simpa using h
theorem qkG{b:BI}(hc:cI P N ops o=some b){t:Bool}{c:Bool}(hs:∀d u,b.g=some (d,u)->a.tmps.getD d undef=.bool c/\(c==u)=t)
  (hn:b.g=none->t=true):Region.wanted o (yielded ops a.tmps)=t:=by
 obtain⟨_,_,_,hg⟩:=wU hc
 rcases hg with⟨h1,h2⟩|⟨j,u,d,h1,h2,h3⟩
 ·simp[Region.wanted,h1,hn h2]
 ·obtain⟨h4,h5⟩:=hs d u h3
  have h6:=qrn h4
  simp only[Region.wanted,h1,yielded,h2,Option.bind_some,h6]
  rw[<-h5]
  cases c<;>cases u<;>rfl
theorem qqJ{b:BI}(hc:cI P N ops o=some b){d:Nat}{u:Bool}(hd:b.g=some (d,u))(h:a.tmps.getD d undef=.tuple #[]):Region.wanted o (yielded ops a.tmps)=false:=by
 obtain⟨_,_,_,hg⟩:=wU hc
 rcases hg with⟨h1,h2⟩|⟨j,u',d',h1,h2,h3⟩
 ·rw[hd]at h2;cases h2
 ·rw[hd]at h3;simp only[Option.some.injEq,Prod.mk.injEq]at h3;obtain⟨rfl,rfl⟩:=h3
  have h6:∀c,a.tmps[d]?≠some (.bool c):=by
   intro c hcc
   rw[Array.getD_eq_getD_getElem?,hcc]at h
   simp at h
  have h7:yielded ops a.tmps j=none:=by
   unfold yielded
   rw[h2]
   show (match a.tmps[d]? with|some (.bool b)=>some b|_=>none)=none
   cases hx:a.tmps[d]? with
   |none=>rfl
   |some v=>
    cases v with
    |bool c=>exact absurd hx (h6 c)
    |_=>rfl
  simp[Region.wanted,h1,h7]
theorem qaI{b:BI}(hc:cI P N ops o=some b){t:Bool}(h:zc fr b.g=some t)(hs:∀d u,b.g=some (d,u)->VR G w (fr d) (a.tmps.getD d undef)):
  Region.wanted o (yielded ops a.tmps)=t:=by
 cases hg:b.g with
 |none=>
  rw[hg]at h
  refine qkG (c:=true) hc (fun d u hd=>by rw[hg]at hd;cases hd) fun _=>?_
  simpa [zc] using h.symm
 |some du=>
  obtain⟨d,u⟩:=du
  rw[hg]at h
  simp only[zc]at h
  split at h
  ·rename_i c hfr
   have h1:=hs d u hg
   rw[hfr]at h1
   refine qkG (c:=c) hc (fun d' u' hd=>?_) (fun hn=>by rw[hg]at hn;cases hn)
   rw[hg]at hd;simp at hd;obtain⟨rfl,rfl⟩:=hd
   exact⟨h1.sc_inv,by simpa using h⟩
  ·rename_i hfr
   have h1:=hs d u hg
   rw[hfr]at h1
   obtain⟨vs,h2,h3,_⟩:=h1.tup_inv
   simp only[Option.some.injEq]at h
   subst h
   exact qqJ hc hg (by rw[h2];cases vs;simp at h3;subst h3;rfl)
  ·cases h
theorem qjY{fn:Func}{f:FuncId}(hf:P.funcs[f]? = some fn)(hb:fn.body.isSome=true)(hn:fn.name ≠ "runtime.NumGoroutine")(us:Array Value):
  (callFunc f us).run P w=.ok (.enter f us) w:=by
 have h3:fn.body≠none:=by cases hh:fn.body<;>simp_all
 simp[callFunc,hf,hn,h3]
theorem uR.append{xs ys:List LV}{us vs:Array Value}(h:uR G w xs us)(k:uR G w ys vs):uR G w (xs++ys) (us++vs):=by
 refine⟨by simp[h.1,k.1],fun i x hx=>?_⟩
 rw[List.getElem?_append]at hx
 split at hx
 ·rename_i hi
  have:=h.2 i x hx
  rw[Array.getD_eq_getD_getElem?,Array.getElem?_append_left (by rw[h.1];exact hi),<-Array.getD_eq_getD_getElem?]
  exact this
 ·rename_i hi
  have:=k.2 _ x hx
  rw[Array.getD_eq_getD_getElem?,Array.getElem?_append_right (by rw[h.1];omega),h.1,<-Array.getD_eq_getD_getElem?]
  exact this
theorem qxv{ρ:Operand->Value}{op:BOp}{f:FuncId}{args:List LV}(hρ:EvR E G w fr ρ)(hc:cOp P o=some op)(h:vy E fr op=some (f,args))(he:qcZ P f):
  ∃us,(execOp ρ o).run P w=.ok (.enter f us) w/\uR G w args us:=by
 obtain⟨fn,hf,hb,hn⟩:=he
 have key:∀(c:Call)(y:Operand)(x:BO)(as:List BO)(first cap:List LV),o.op=.call c->c.callee=.value y->cO y=some x->c.args.toList.mapM cO=some as->E.ev fr x=.fn (.func f) first cap ->
   args=first++evs E fr as++cap->∃us,(execOp ρ o).run P w=.ok (.enter f us) w/\uR G w args us:=by
  intro c y x as first cap ho hcal hy has hev hargs
  have h0:=hρ _ _ hy
  rw[hev]at h0
  obtain⟨us,vs,hv,h1,h2,h3,h4⟩:=h0.fn_inv
  obtain⟨h5,h6⟩:=qgP hρ has
  refine⟨us++c.args.map ρ++vs,?_,?_⟩
  ·simp only[execOp,ho,resolve,hcal,hv,Deferred.ofValue,Sem.run_bind,Sem.run_pure,invoke]
   exact qjY hf hb hn _
  ·rw[hargs]
   refine uR.append (uR.append ⟨h1,h3⟩ ⟨?_,?_⟩) ⟨h2,h4⟩
   ·rw[h5];simp[evs]
   ·intro i z hz;exact h6 i z (by simpa [evs] using hz)
 cases op<;>simp only[vy]at h<;>try (cases h;done)
 ·rename_i g as
  simp at h;obtain⟨rfl,rfl⟩:=h
  obtain⟨c,ho,hcal,has⟩:=qvK hc
  exact key c (.func g) (.c (.fn (.func g) [] [])) as [] [] ho hcal rfl has rfl (by simp)
 ·rename_i x as
  split at h
  ·rename_i g first cap hev
   simp only[Option.some.injEq,Prod.mk.injEq]at h;obtain⟨rfl,rfl⟩:=h
   obtain⟨c,y,ho,hcal,hy,has⟩:=qnS hc
   exact key c y x as first cap ho hcal hy has hev rfl
  ·cases h
end
end Go.Abs
namespace Go.Abs
open Go
theorem qcG{α β:Type}{f:α->Option β}{ol:List α}{i:β}{l:List β}(h:ol.mapM f=some (i::l)):∃o ol',ol=o::ol'/\f o=some i/\ol'.mapM f=some l:=by
 cases ol with
 |nil=>simp at h
 |cons o ol=>
  rw[List.mapM_cons]at h
  cases ho:f o with
  |none=>simp[ho]at h
  |some b=>
   cases hl:ol.mapM f with
   |none=>simp[ho,hl]at h
   |some bl=>simp[ho,hl]at h;obtain⟨rfl,rfl⟩:=h;exact⟨o,ol,rfl,ho,hl⟩
theorem qjd{α β:Type}{f:α->Option β}{ol:List α}(h:ol.mapM f=some []):ol=[]:=by
 cases ol with
 |nil=>rfl
 |cons o ol=>
  rw[List.mapM_cons]at h
  cases ho:f o with
  |none=>simp[ho]at h
  |some b=>
   cases hl:ol.mapM f with
   |none=>simp[ho,hl]at h
   |some bl=>simp[ho,hl]at h
section
variable{P:Program}{E:Env}{fr:Fr}{H:qa}{S:Res->Prop}{i:BI}{l:List BI}
theorem quf{df:List qcX}(h:S (.code .normal fr df H)):qaE P E [] fr H S:=by
 intro ro nf N ops ol G w a Q hm hI hE hf hQ
 obtain rfl:=qjd hm
 exact hQ _ _ _ ⟨.normal,fr,df,H,G,h,trivial,hI,hf,rfl,Ext.refl _ _⟩
theorem qud(hw:zc fr i.g=some false)(ih:qaE P E l (z8 fr i.d (.tup [])) H S):qaE P E (i::l) fr H S:=by
 intro ro nf N ops ol G w a Q hm hI hE hf hQ
 obtain⟨o,ol,rfl,ho,hl⟩:=qcG hm
 obtain⟨h1,h2,h3,h4⟩:=wU ho
 unfold wpListIn
 rw[if_neg (by rw[qaI ho hw fun d u _=>hf.slot d];simp)]
 refine⟨fun _ _=>trivial,ih ro nf N ops ol G w _ Q hl hI hE ?_ (by rwa [qbk])⟩
 rw[h2]
 exact hf.put h3 (VR.tup rfl fun i c h=>(by simp at h))
theorem qgG(hb:i.op≠.bad)(hw:zc fr i.g=some true)(h:∀(G:qb) (w:World) (ρ:Operand->Value) (o:Oper),Inv G w H->EvR E G w fr ρ->(∀v,ρ (.const v)=v)->cOp P o=some i.op ->
   ∃v H',vA P G w ρ o v H'/\qaE P E l (z8 fr i.d v) H' S):qaE P E (i::l) fr H S:=by
 intro ro nf N ops ol G w a Q hm hI hE hf hQ
 obtain⟨o,ol,rfl,ho,hl⟩:=qcG hm
 obtain⟨h1,h2,h3,h4⟩:=wU ho
 unfold wpListIn
 rw[if_pos (qaI ho hw fun d u _=>hf.slot d)]
 obtain⟨v,H',⟨u,w',G',hy,hv,hx,hI'⟩,ih⟩:=h G w a.eval o hI (qat hE hf) (fun _=>rfl) (h1 hb)
 refine hy.wpIn ?_
 refine ih ro nf N ops ol G' w' _ Q hl hI' (hE.mono hx) ?_ (fun e a' w' hp=>hQ _ _ _ (.from hx (by rwa [qbk]at hp)))
 rw[h2]
 exact(hf.mono hx).put h3 hv
theorem qpV{ro:Option Nat}{nf N:Nat}{ops:Array Oper}{o:Oper}{G:qb}{w:World}{a:Act}{Q:Exit->Act->World->Prop}{K:Act->World->Prop}{T:Res->Prop}{op:BOp}{f:FuncId}{args:List LV}{fr':Fr}
  (hI:Inv G w H) (hE:yX E G w) (hρ:EvR E G w fr' a.eval) (hc:cOp P o=some op) (h:vy E fr' op=some (f,args)) (hcall:qZ P E f args H T)
  (hret:∀v H' G' w' u,T (.ret v H')->VR G' w' v u->Inv G' w' H'->Ext G w G' w'->K (a.put o.dst u) w')
  (hpan:∀v H' G' w' u,T (.pan v H')->VR G' w' v u->Inv G' w' H'->Ext G w G' w'->Q (.panic [{ v:=u,recovered:=false }]) a w'):o.wpIn (fen ro) nf P a w K Q:=by
 obtain⟨he,hc2⟩:=hcall
 obtain⟨us,hrun,hargs⟩:=qxv hρ hc h he
 have hd:∀c,o.op≠.defer c:=fun c hc=>by obtain⟨d,hd⟩:=qjK hc hrun;cases hd
 refine⟨fun _ _=>trivial,?_⟩
 rw[show (fen ro).round=ro from rfl,Oper.semAt_eq ro _ _ hd,hrun,Oper.uponIn_enter]
 refine⟨fun h=>(by cases h),?_⟩
 have hcc:=callsIn_wide (n:=nf - 1).2 (hc2 G w us hI hE hargs)
 refine CallsIn.mono (F:=fen ro) hcc fun e w' hp=>?_
 cases e with
 |returned u=>obtain⟨v,H',G',h1,h2,h3,h4⟩:=hp;exact hret _ _ _ _ _ h1 h2 h3 h4
 |panicked ch=>obtain⟨v,u,H',G',h1,rfl,h2,h3,h4⟩:=hp;exact hpan _ _ _ _ _ h1 h2 h3 h4
 |outgrown=>exact hp.elim
theorem qug{df:List qcX}{T:Res->Prop}{f:FuncId}{args:List LV}(hw:zc fr i.g=some true)(h:vy E fr i.op=some (f,args))(hcall:qZ P E f args H T)
  (hret:∀v H',T (.ret v H')->qaE P E l (z8 fr i.d v) H' S) (hpan:∀v H',T (.pan v H')->S (.code (.pan v) fr df H')):qaE P E (i::l) fr H S:=by
 intro ro nf N ops ol G w a Q hm hI hE hf hQ
 obtain⟨o,ol,rfl,ho,hl⟩:=qcG hm
 obtain⟨h1,h2,h3,h4⟩:=wU ho
 unfold wpListIn
 rw[if_pos (qaI ho hw fun d u _=>hf.slot d)]
 refine qpV (N:=N) (ops:=ops) hI hE (qat hE hf) (h1 (qpU h)) h hcall (fun v H' G' w' u hT hv hI' hx=>?_) (fun v H' G' w' u hT hv hI' hx=>?_)
 ·refine hret v H' hT ro nf N ops ol G' w' _ Q hl hI' (hE.mono hx) ?_ (fun e a' w' hp=>hQ _ _ _ (.from hx (by rwa [qbk]at hp)))
  rw[h2]
  exact(hf.mono hx).put h3 hv
 ·exact hQ _ _ _ ⟨.pan v,fr,df,H',G',hpan v H' hT,⟨u,rfl,hv⟩,hI',hf.mono hx,rfl,hx⟩
theorem que{df:List qcX}{x:BO}{t:TypeId}{v:LV}(hw:zc fr i.g=some true)(hop:i.op=.pn x)(hx:E.ev fr x=.iface t v)(h:S (.code (.pan (E.ev fr x)) fr df H)):
  qaE P E (i::l) fr H S:=by
 intro ro nf N ops ol G w a Q hm hI hE hf hQ
 obtain⟨o,ol,rfl,ho,hl⟩:=qcG hm
 obtain⟨h1,h2,h3,h4⟩:=wU ho
 unfold wpListIn
 rw[if_pos (qaI ho hw fun d u _=>hf.slot d)]
 rw[hop]at h1
 obtain⟨y,hoy,hy⟩:=qvE (h1 (by simp))
 have hv:=qat hE hf y x hy
 have hv':=hv
 rw[hx]at hv'
 obtain⟨u,hu,hvu⟩:=hv'.iface_inv
 have hd:∀c,o.op≠.defer c:=fun c hc=>by rw[hoy]at hc;cases hc
 refine⟨fun _ _=>trivial,?_⟩
 have:(execOp a.eval o).run P w=.halt (.panic (a.eval y)) w:=by
  simp[execOp,hoy,hu,Instr.panic]
 rw[show (fen ro).round=ro from rfl,Oper.semAt_eq ro _ _ hd,this,Oper.uponIn_panic]
 exact hQ _ _ _ ⟨.pan _,fr,df,H,G,h,⟨_,rfl,hv⟩,hI,hf,rfl,Ext.refl _ _⟩
end
end Go.Abs
namespace Go.Abs
open Go
section
variable{E:Env}{fr fr':Fr}{H H':qa}
theorem vb{b:BO}(h:∀u∈b.uses,fr u=fr' u):E.ev fr b=E.ev fr' b:=by
 cases b with
 |t n=>exact h n (by simp[BO.uses])
 |c v=>rfl
 |g n=>rfl
theorem qfj{l:List BO}(h:∀u∈qbC l,fr u=fr' u):l.map (E.ev fr)=l.map (E.ev fr'):=by
 apply List.map_congr_left
 intro b hb
 exact vb fun u hu=>h u (by simp only[qbC,List.mem_flatMap];exact⟨b,hb,hu⟩)
theorem qni{d:Nat}{b:Option BO}(h:∀u∈(b.map BO.uses).getD [],fr u=fr' u):y5 fr E.ev d b=y5 fr' E.ev d b:=by
 cases b with
 |none=>rfl
 |some b=>simp only[y5];rw[vb (fr:=fr) (fr':=fr') fun u hu=>h u (by simpa using hu)]
theorem qkR{op:BOp}(h:∀u∈op.uses,fr u=fr' u):qz E fr H op=qz E fr' H op:=by
 cases op<;>simp only[BOp.uses,List.mem_append]at h
 case mf f a b=>simp only[qz,qfj (E:=E) (fr:=fr) (fr':=fr') fun u hu=>h u (.inl hu),qfj (E:=E) (fr:=fr) (fr':=fr') fun u hu=>h u (.inr hu)]
 case bs sz ps=>
  have h1:∀p∈ps,E.ev fr p=E.ev fr' p:=fun p hp=>vb fun u hu=>h u (by simp only[qbC,List.mem_flatMap];exact⟨p,hp,hu⟩)
  have h2:ps.map (E.ev fr)=ps.map (E.ev fr'):=qfj h
  have h3:(ps.all fun p=>(E.ev fr p).cells.length==sz&&(E.ev fr p).whole)=(ps.all fun p=>(E.ev fr' p).cells.length==sz&&(E.ev fr' p).whole):=by
   rw[Bool.eq_iff_iff,List.all_eq_true,List.all_eq_true]
   constructor<;>intro hh p hp<;>have:=hh p hp<;>rw[h1 p hp] at*<;> exact this
  simp only[qz,h2,h3]
 case bd z ps=>
  have h1:(ps.map fun p=>(p.1,p.2.1,E.ev fr p.2.2))=(ps.map fun p=>(p.1,p.2.1,E.ev fr' p.2.2)):=by
   apply List.map_congr_left
   intro p hp
   rw[vb (fr:=fr) (fr':=fr') fun u hu=>h u (by simp only[qbC,List.mem_flatMap,List.mem_map];exact⟨_,⟨p,hp,rfl⟩,hu⟩)]
  simp only[qz,h1]
 case pk c a b=>simp only[qz,vb (E:=E) (fr:=fr) (fr':=fr') fun u hu=>h u (.inl (.inl hu)),vb (E:=E) (fr:=fr) (fr':=fr') fun u hu=>h u (.inl (.inr hu)),vb (E:=E) (fr:=fr) (fr':=fr') fun u hu=>h u (.inr hu)]
 case lk k ok z x i=>simp only[qz,vb (E:=E) (fr:=fr) (fr':=fr') fun u hu=>h u (.inl (.inl hu)),vb (E:=E) (fr:=fr) (fr':=fr') fun u hu=>h u (.inl (.inr hu)),vb (E:=E) (fr:=fr) (fr':=fr') fun u hu=>h u (.inr hu)]
 case sr k sz x l hh=>
  simp only[qz,vb (E:=E) (fr:=fr) (fr':=fr') fun u hu=>h u (.inl (.inl hu)),qni (E:=E) (fr:=fr) (fr':=fr') fun u hu=>h u (.inl (.inr hu)),qni (E:=E) (fr:=fr) (fr':=fr') fun u hu=>h u (.inr hu)]
 all_goals first
  |(simp only[qz];done)
  |rfl
  |(simp only[qz,vb (E:=E) (fr:=fr) (fr':=fr') fun u hu=>h u (.inl hu),vb (E:=E) (fr:=fr) (fr':=fr') fun u hu=>h u (.inr hu)];done)
  |(simp only[qz,vb (E:=E) (fr:=fr) (fr':=fr') fun u hu=>h u hu];done)
theorem qxb{op:BOp}(h:∀u∈op.uses,fr u=fr' u):uo E fr H op=uo E fr' H op:=by
 cases op<;>simp only[BOp.uses,List.mem_append]at h
 case mu k m a b=>simp only[uo,vb (E:=E) (fr:=fr) (fr':=fr') fun u hu=>h u (.inl (.inl hu)),vb (E:=E) (fr:=fr) (fr':=fr') fun u hu=>h u (.inl (.inr hu)),vb (E:=E) (fr:=fr) (fr':=fr') fun u hu=>h u (.inr hu)]
 all_goals first
  |(simp only[uo];done)
  |rfl
  |(simp only[uo,vb (E:=E) (fr:=fr) (fr':=fr') fun u hu=>h u (.inl hu),vb (E:=E) (fr:=fr) (fr':=fr') fun u hu=>h u (.inr hu)];done)
  |(simp only[uo,vb (E:=E) (fr:=fr) (fr':=fr') fun u hu=>h u hu];done)
theorem qxd{op:BOp}(h:∀u∈op.uses,fr u=fr' u):wR E fr H op=wR E fr' H op:=by
 cases op<;>simp only[BOp.uses,List.mem_append]at h
 case ap sz s x=>simp only[wR,vb (E:=E) (fr:=fr) (fr':=fr') fun u hu=>h u (.inl hu),vb (E:=E) (fr:=fr) (fr':=fr') fun u hu=>h u (.inr hu)]
 all_goals rfl
theorem qwX{op:BOp}{v:LV}{H'':qa}(h:∀u∈op.uses,fr u=fr' u):qae E fr H op v H''=qae E fr' H op v H'':=by
 simp only[qae,qxb h,qxd h]
theorem qxu{op:BOp}(h:∀u∈op.uses,fr u=fr' u):vy E fr op=vy E fr' op:=by
 cases op<;>simp only[BOp.uses,List.mem_append]at h
 case cf f as=>simp only[vy,evs,qfj (E:=E) (fr:=fr) (fr':=fr') h]
 case cl x as=>simp only[vy,evs,qfj (E:=E) (fr:=fr) (fr':=fr') fun u hu=>h u (.inr hu),vb (E:=E) (fr:=fr) (fr':=fr') fun u hu=>h u (.inl hu)]
 all_goals rfl
theorem qeJ{g:Option (Nat×Bool)}(h:∀d t,g=some (d,t)->fr d=fr' d):zc fr g=zc fr' g:=by
 cases g with
 |none=>rfl
 |some dt=>simp only[zc,h dt.1 dt.2 rfl]
theorem qrg{op:BOp}(h:op.pure=true):qz E fr H op=qz E fr H' op:=by
 cases op<;>simp only[BOp.pure,Bool.false_eq_true]at h<;>first|rfl|skip
 case ln k x=>
  simp only[qz]
  have:∀X,qV H k X=qV H' k X:=by
   intro X
   unfold qV
   split<;>simp_all
  rw[this]
 case sr k sz x l hh=>
  simp only[qz]
  have:∀X,qV H k X=qV H' k X:=by
   intro X
   unfold qV
   split<;>simp_all
  rw[this]
theorem qrh{op:BOp}{v:LV}(h:qz E fr H op=some v):op.isVal=true:=by
 cases op<;>simp only[qz]at h<;>first|rfl|(cases h;done)
theorem qxa{op:BOp}{r:LV×qa}(h:uo E fr H op=some r)(hm:∀z n,op≠.ms z n):op.isEff=true:=by
 cases op<;>simp only[uo]at h<;>first|rfl|(cases h;done)|exact absurd rfl (hm _ _)
theorem qwW{op:BOp}{v:LV}{H'':qa}(h:qae E fr H op v H'')(hm:∀z n,op≠.ms z n):op.isEff=true:=by
 rcases h with h|h
 ·exact qxa h hm
 ·cases op<;>simp only[wR]at h<;>first|rfl|(cases h;done)
theorem qxt{op:BOp}{r:FuncId×List LV}(h:vy E fr op=some r):op.isEff=true:=by
 cases op<;>simp only[vy]at h<;>first|rfl|(cases h;done)
end
section
variable(P:Program)(N:Nat)(ops:Array Oper)
inductive zf:List qr->Prop
 |nil:zf []
 |cons {e:qr} {rest:List qr} {o:Oper}:ops[e.i]? = some o->cI P N ops o=some e.b->e.m=qci rest (qaz o)->qil (qaz o) rest e=true ->
   (qce rest e).all (qiQ rest)=true->zf rest->zf (e::rest)
end
section
variable{P:Program}{N:Nat}{ops:Array Oper}
theorem zf.tail{e:qr}{rest:List qr}(h:zf P N ops (e::rest)):zf P N ops rest:=by cases h;assumption
theorem zf.suffix{l l':List qr}(h:zf P N ops l)(hs:l' <:+ l):zf P N ops l':=by
 obtain⟨t,rfl⟩:=hs
 induction t with
 |nil=>exact h
 |cons x t ih=>exact ih h.tail
theorem qgO{rest:List qr}{k:Nat}:∀{es:List Nat},(qci rest es).testBit k=true↔∃j∈es,k=j\/∃t,rest.find? (·.i==j)=some t/\t.m.testBit k=true
 |[]=>by simp[qci]
 |j::r=>by
  simp only[qci,Nat.testBit_or,Bool.or_eq_true,qgO (es:=r),List.mem_cons,exists_eq_or_imp]
  have h1:(1 <<< j).testBit k=true↔k=j:=by
   rw[Nat.testBit_shiftLeft]
   by_cases hkj:k=j
   ·subst hkj;simp
   ·simp only[hkj,iff_false,Bool.and_eq_true,decide_eq_true_eq,not_and,Bool.not_eq_true]
    intro hle
    have:k - j≠0:=by omega
    obtain⟨d,hd⟩:=Nat.exists_eq_succ_of_ne_zero this
    rw[hd,Nat.testBit_succ];simp
  have h2:(((rest.find? (fun s:qr=>s.i==j)).map (fun s:qr=>s.m)).getD 0).testBit k=true↔∃t,rest.find? (·.i==j)=some t/\t.m.testBit k=true:=by
   cases rest.find? (·.i==j)<;>simp
  rw[h1,h2]
structure qyw(P:Program)(N:Nat)(ops:Array Oper)(rest:List qr)(e:qr):Prop where
 o:∃o,ops[e.i]? = some o/\cI P N ops o=some e.b/\e.m=qci rest (qaz o)/\(∀j∈qaz o,(∃t∈rest,t.i=j)/\e.m.testBit j=true)
 kind:e.b.op.isVal=true\/e.b.op.isEff=true
 ne:∀s∈rest,s.i≠e.i
 nd:∀s∈rest,∀d,s.b.d=some d->e.b.d≠some d
 use:∀s∈rest,∀d,s.b.d=some d->d∈e.b.uses->e.m.testBit s.i=true
 anti:∀s∈rest,∀d,e.b.d=some d->d∈s.b.uses->e.m.testBit s.i=true
 eff:∀s∈rest,s.b.op.isEff=true->e.fl=true\/e.m.testBit s.i=true
 pend:∀s∈rest,e.b.op.isEff=true->s.b.op.isVal=true->s.b.op.pure=false->e.m.testBit s.i=false ->
  (∃d,s.b.d=some d)/\∀t∈rest,∀d,t.b.d=some d->d∈s.b.uses->s.m.testBit t.i=true
theorem qhN{s:qr}{l:List Nat}:s.writes l=true↔∃d,s.b.d=some d/\d∈l:=by
 unfold qr.writes
 cases s.b.d<;>simp
theorem zf.facts{e:qr}{rest:List qr}(h:zf P N ops (e::rest)):qyw P N ops rest e:=by
 cases h with
 |@cons _ _ o ho hc hm hs hp _=>
  simp only[qil,Bool.and_eq_true,Bool.or_eq_true,List.all_eq_true,List.any_eq_true,beq_iff_eq,bne_iff_ne,ne_eq,Bool.not_eq_true']at hs
  obtain⟨⟨h1,h2⟩,h3⟩:=hs
  have wr:∀s∈rest,(s.writes e.b.uses=true\/e.writes s.b.uses=true\/(s.b.op.isEff=true/\e.fl=false))->e.m.testBit s.i=true:=by
   intro s hs hw
   rcases (h3 s hs).2 with h|h
   ·rcases hw with hw|hw|⟨hw,hf⟩
    ·simp[hw]at h
    ·simp[hw]at h
    ·simp[hw,hf]at h
   ·exact h
  refine⟨⟨o,ho,hc,hm,fun j hj=>⟨(h2 j hj).1,(h2 j hj).2⟩⟩,h1,fun s hs=>(h3 s hs).1.1,fun s hs d hd he=>?_,fun s hs d hd hu=>wr s hs (.inl (qhN.2 ⟨d,hd,hu⟩)),
   fun s hs d hd hu=>wr s hs (.inr (.inl (qhN.2 ⟨d,hd,hu⟩))),fun s hs he=>(by cases hf:e.fl with|true=>exact .inl rfl|false=>exact .inr (wr s hs (.inr (.inr ⟨he,hf⟩)))),fun s hs he hv hpu hb=>?_⟩
  ·have:=(h3 s hs).1.2
   simp[qmg,hd,he]at this
  ·have:s∈qce rest e:=by simp[qce,he,hs,hv,hpu,hb]
   have:=List.all_eq_true.1 hp s this
   simp only[qiQ,Bool.and_eq_true,List.all_eq_true,Bool.or_eq_true,Bool.not_eq_true']at this
   refine⟨Option.isSome_iff_exists.1 this.1,fun t ht d hd hu=>?_⟩
   rcases this.2 t ht with h|h
   ·rw[Bool.eq_false_iff]at h;exact absurd (qhN.2 ⟨d,hd,hu⟩) h
   ·exact h
theorem qbX{α:Type}{x:α}{l:List α}(h:x∈l):∃m,(x::m) <:+ l:=by
 obtain⟨a,b,rfl⟩:=List.append_of_mem h
 exact⟨b,a,rfl⟩
theorem qgk{α:Type}{x e:α}{m l:List α}(h:(x::m) <:+ (e::l)):(x=e/\m=l)\/(x::m) <:+ l:=by
 rw[List.suffix_cons_iff]at h
 rcases h with h|h
 ·simp at h;exact .inl h
 ·exact .inr h
theorem zf.masks{l:List qr}(h:zf P N ops l):∀(t:qr)(m:List qr),(t::m) <:+ l->∀j,t.m.testBit j=true->∃u∈m,u.i=j:=by
 induction l with
 |nil=>intro t m hs;simp at hs
 |cons e rest ih=>
  intro t m hs j hj
  rcases qgk hs with⟨rfl,rfl⟩|hs
  ·obtain⟨o,_,_,hm,hb⟩:=h.facts.o
   rw[hm,qgO]at hj
   obtain⟨k,hk,hj⟩:=hj
   rcases hj with rfl|⟨u,hf,hj⟩
   ·exact(hb j hk).1
   ·obtain⟨m',hm'⟩:=qbX (List.mem_of_find?_eq_some hf)
    obtain⟨v,hv,hi⟩:=ih h.tail u m' hm' j hj
    exact⟨v,hm'.mem (.tail _ hv),hi⟩
  ·exact ih h.tail t m hs j hj
end
end Go.Abs
