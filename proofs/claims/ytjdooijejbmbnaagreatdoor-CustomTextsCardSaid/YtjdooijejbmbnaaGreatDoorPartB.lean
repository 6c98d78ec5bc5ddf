/- Part of the proof that for every row of clauses, every atom and every source the law CustomTexts returns true. Conditions: none. -/
import Derived.Test.YtjdooijejbmbnaaGreatDoorPartA
import Derived.Orders
set_option linter.unusedVariables false
set_option linter.unusedSimpArgs false
set_option linter.unusedSectionVars false
namespace Go.Abs
open Go
section
variable{P:Program}{E:Env}{G G':Ghost}{w w':World}{fr:Fr}{ρ:Operand->Value}{H H':LHeap}{o:Oper}
theorem run_eqB{t:TypeId}{k:Nat}{X Y:LV}{u v:Value}{b:Bool}{d:Nat}(hk:plainKind P t=some k)(h:eqB k X Y=some b)(hX:VR G w X u)(hY:VR G w Y v):
  (Op.equalIn (d+1) t u v).run P w=.ok b w:=by
 unfold eqB at h
 split at h
 ·obtain rfl:=hX.sc_inv
  obtain rfl:=hY.sc_inv
  split at h
  ·rename_i hkk
   subst hkk
   simp at h;subst h
   unfold plainKind at hk
   split at hk<;>simp at hk
   rename_i kk hu
   exact run_equalIn_int w d t _ kk _ _ hu
  ·cases h
 ·obtain rfl:=hX.sc_inv
  obtain rfl:=hY.sc_inv
  simp at h;subst h
  unfold plainKind at hk
  split at hk<;>simp at hk
  rename_i hu
  exact run_equalIn_string w d t _ _ hu
 ·obtain rfl:=hX.sc_inv
  obtain rfl:=hY.sc_inv
  simp at h;subst h
  unfold plainKind at hk
  split at hk<;>simp at hk
  rename_i hu
  exact run_equalIn_bool' w d t _ _ hu
 ·cases h
theorem nO_of_plain{t:TypeId}{k:Nat}(hk:plainKind P t=some k)(hs:sizeO P t=some 1):nO P t=some none:=by
 have:aggO P t=some false:=by
  unfold plainKind at hk
  unfold aggO
  split at hk<;>simp at hk<;>rename_i hu<;>simp[hu]
 simp[nO,hs,this]
theorem run_eqFields{d:Nat}{xs ys:List LV}{us vs:Array Value}(hus:us.size=xs.length)(hvs:vs.size=ys.length)
  (h1:∀(i:Nat)(c:LV),xs[i]? = some c->VR G w c (us.getD i undef)) (h2:∀i,i<xs.length->(us.getD i undef).oneCell'=true)
  (h3:∀(i:Nat)(c:LV),ys[i]? = some c->VR G w c (vs.getD i undef)) (h4:∀i,i<ys.length->(vs.getD i undef).oneCell'=true):
  ∀(fs:List Field)(i:Nat)(ks:List Nat)(b:Bool),flatFrom P i fs=some ks->eqL ks (xs.drop i) (ys.drop i)=some b ->
   (Op.eqFields (d+1) us vs fs).run P w=.ok b w
 |[],i,ks,b,hf,he=>by
  simp[flatFrom]at hf
  subst hf
  unfold eqL at he
  split at he<;>simp_all [Op.eqFields]
 |f::r,i,ks,b,hf,he=>by
  simp only[flatFrom,Option.ite_none_right_eq_some]at hf
  obtain⟨⟨ho,hn,hs⟩,hf⟩:=hf
  split at hf
  ·rename_i k ks' hk hr
   simp at hf;subst hf
   unfold eqL at he
   split at he
   ·rename_i heq _ _;simp at heq
   ·rename_i k' ks'' a as b' bs heq hxs hys
    simp at heq
    obtain⟨rfl,rfl⟩:=heq
    split at he
    ·rename_i p q hp hq
     simp at he;subst he
     have hxi:xs[i]? = some a:=by rw[<-List.head?_drop,hxs];rfl
     have hyi:ys[i]? = some b':=by rw[<-List.head?_drop,hys];rfl
     have hxd:xs.drop (i+1)=as:=by rw[<-List.drop_drop,hxs];rfl
     have hyd:ys.drop (i+1)=bs:=by rw[<-List.drop_drop,hys];rfl
     obtain⟨u,hu,hU⟩:=run_part (P:=P) (off:=f.offset) (nO_of_plain hk hs) hus h1 h2 (show partL xs f.offset none=some a by rw[ho];exact hxi)
     obtain⟨v,hv,hV⟩:=run_part (P:=P) (off:=f.offset) (nO_of_plain hk hs) hvs h3 h4 (show partL ys f.offset none=some b' by rw[ho];exact hyi)
     have he:=run_eqB (d:=d) hk hp hU hV
     have ih:=run_eqFields (d:=d) hus hvs h1 h2 h3 h4 r (i+1) ks' q hr (by rw[hxd,hyd];exact hq)
     simp only[Op.eqFields,hn,ne_eq,not_false_eq_true,if_true,Sem.run_bind,hu,hv,Result.andThen_ok,he]
     cases p
     ·simp
     ·simp[ih]
    ·cases he
   ·cases he
  ·cases hf
theorem run_eqAgg{t:TypeId}{fs:Array Field}{ks:List Nat}{xs ys:List LV}{u v:Value}{b:Bool}(ht:P.underlying t=some (.struct fs))(hf:flatStruct P fs t=some ks)
  (h:eqL ks xs ys=some b) (hX:VR G w (.agg xs) u) (hY:VR G w (.agg ys) v) (d:Nat):(Op.equalIn (d+2) t u v).run P w=.ok b w:=by
 obtain⟨us,rfl,hus,h1,h2⟩:=hX.agg_inv
 obtain⟨vs,rfl,hvs,h3,h4⟩:=hY.agg_inv
 unfold flatStruct at hf
 split at hf
 ·cases hf
 ·rename_i hp
  have hfo:P.fieldsOf t=fs:=by simp[Program.fieldsOf,ht]
  rw[run_equalIn_struct w (d+1) t us vs (by rw[hfo];exact ht) (by simpa using hp),hfo]
  exact run_eqFields hus hvs h1 h2 h3 h4 fs.toList 0 ks b hf (by simpa using h)
theorem run_eqGuard_ok{op:BinOp}{t:TypeId}{x y:Operand}{u v:Value}(h1:u=.nilIface->v=.nilIface->((∃c,x=.const c)\/∃c,y=.const c))
  (h2:∀a b,u=.agg a->v=.agg b->P.eqGuardType P.depth t=false):(eqGuard op t x y u v).run P w=.ok () w:=by
 unfold eqGuard
 cases op<;>simp only[Bool.not_false,Bool.not_true,Bool.false_eq_true,if_true,if_false,Sem.run_pure]
 all_goals
  split
  ·rcases h1 rfl rfl with⟨c,rfl⟩|⟨c,rfl⟩
   ·rfl
   ·cases x<;>rfl
  ·rename_i a b
   simp[Sem.run_bind,h2 a b rfl rfl]
  ·rfl
theorem eqn_map(d:Nat){t ka ea:TypeId}(hu:P.underlying t=some (.map ka ea))(a:Option Nat):(Op.equalIn (d+1) t (.map none) (.map a)).run P w=.ok a.isNone w:=by
 simp only[Op.equalIn,Sem.run_bind,run_underlying hu,Result.andThen_ok];rfl
theorem eqn_map2(d:Nat){t ka ea:TypeId}(hu:P.underlying t=some (.map ka ea))(a:Nat):(Op.equalIn (d+1) t (.map (some a)) (.map none)).run P w=.ok false w:=by
 simp only[Op.equalIn,Sem.run_bind,run_underlying hu,Result.andThen_ok];rfl
theorem eqn_fn(d:Nat){t:TypeId}{ps rs:Array TypeId}{va:Bool}(hu:P.underlying t=some (.func ps rs va))(f:Fn)(a b:Array Value):(Op.equalIn (d+1) t (.func f a b) .nilFunc).run P w=.ok false w:=by
 simp only[Op.equalIn,Sem.run_bind,run_underlying hu,Result.andThen_ok];rfl
theorem eqn_fn2(d:Nat){t:TypeId}{ps rs:Array TypeId}{va:Bool}(hu:P.underlying t=some (.func ps rs va))(f:Fn)(a b:Array Value):(Op.equalIn (d+1) t .nilFunc (.func f a b)).run P w=.ok false w:=by
 simp only[Op.equalIn,Sem.run_bind,run_underlying hu,Result.andThen_ok];rfl
theorem eqn_if(d:Nat){t:TypeId}{ms:Array (String×TypeId)}(hu:P.underlying t=some (.interface ms))(u:TypeId)(a:Value):(Op.equalIn (d+1) t (.iface u a) .nilIface).run P w=.ok false w:=by
 simp only[Op.equalIn,Sem.run_bind,run_underlying hu,Result.andThen_ok];rfl
theorem eqn_if2(d:Nat){t:TypeId}{ms:Array (String×TypeId)}(hu:P.underlying t=some (.interface ms))(u:TypeId)(a:Value):(Op.equalIn (d+1) t .nilIface (.iface u a)).run P w=.ok false w:=by
 simp only[Op.equalIn,Sem.run_bind,run_underlying hu,Result.andThen_ok];rfl
theorem eqn_if3(d:Nat){t:TypeId}{ms:Array (String×TypeId)}(hu:P.underlying t=some (.interface ms)):(Op.equalIn (d+1) t .nilIface .nilIface).run P w=.ok true w:=by
 simp only[Op.equalIn,Sem.run_bind,run_underlying hu,Result.andThen_ok];rfl
theorem eqn_sn(d:Nat){t e:TypeId}(hu:P.underlying t=some (.slice e))(a:Addr)(n c:Nat):(Op.equalIn (d+1) t (.slice (some a) n c) (.slice none 0 0)).run P w=.ok false w:=by
 simp only[Op.equalIn,Sem.run_bind,run_underlying hu,Result.andThen_ok];rfl
theorem eq_fin(hI:Inv G w H){neg:Bool}{t t':TypeId}{x y:Operand}{b:Bool}(ho:o.op=.binOp (if neg then .neq else .eql) t x y t')
  (h1:(eqGuard (if neg then .neq else .eql) t x y (ρ x) (ρ y)).run P w=.ok () w) (h2:(binOp (if neg then .neq else .eql) t (ρ x) (ρ y)).run P w=.ok (.bool (b != neg)) w):ValOk P G w H ρ o (.bool (b != neg)):=by
 refine .here hI (v:=.bool (b != neg)) ?_ (.sc _)
 simp[execOp,ho,Sem.run_bind,h1,h2]
theorem run_bin_eq{neg:Bool}{t:TypeId}{u v:Value}{b:Bool}(hi:∀k m k' n,u=.int k m->v=.int k' n->False)(hs:∀s r,u=.string s->v=.string r->False)
  (hf:∀k m k' n,u=.float k m->v=.float k' n->False) (hc:∀k m m' k' n n',u=.complex k m m'->v=.complex k' n n'->False)
  (h:(Op.equal t u v).run P w=.ok b w):(binOp (if neg then .neq else .eql) t u v).run P w=.ok (.bool (b != neg)) w:=by
 cases neg
 ·have e:binOp .eql t u v=(do pure (.bool (<- Op.equal t u v))):=by
   cases u<;>cases v<;>first|rfl|exact(hi _ _ _ _ rfl rfl).elim|exact(hs _ _ rfl rfl).elim|exact(hf _ _ _ _ rfl rfl).elim|exact(hc _ _ _ _ _ _ rfl rfl).elim
  simp[e,h]
 ·have e:binOp .neq t u v=(do pure (.bool (!(<- Op.equal t u v)))):=by
   cases u<;>cases v<;>first|rfl|exact(hi _ _ _ _ rfl rfl).elim|exact(hs _ _ rfl rfl).elim|exact(hf _ _ _ _ rfl rfl).elim|exact(hc _ _ _ _ _ _ rfl rfl).elim
  simp[e,h]
theorem val_eq(hI:Inv G w H)(hρ:EvR E G w fr ρ){neg:Bool}{t t':TypeId}{x y:Operand}{bx b2:BO}{k:EqK}(ho:o.op=.binOp (if neg then .neq else .eql) t x y t')
  (hx:cO x=some bx) (hy:cO y=some b2) (hfit:eqFits P t x y=true) (hk:eqKind P t=some k) {b:Bool} (h:eqK k (E.ev fr bx) (E.ev fr b2)=some b) (hρc:∀v,ρ (.const v)=v):
  ValOk P G w H ρ o (.bool (b != neg)):=by
 have hX:=hρ _ _ hx
 have hY:=hρ _ _ hy
 have guard:(ρ x≠.nilIface\/ρ y≠.nilIface)->((∀a,ρ x≠.agg a)\/∀a,ρ y≠.agg a)->(eqGuard (if neg then .neq else .eql) t x y (ρ x) (ρ y)).run P w=.ok () w:=by
  intro h1 h2
  exact run_eqGuard_ok (fun e1 e2=>by rcases h1 with h|h<;>contradiction) (fun a b e1 e2=>by rcases h2 with h|h<;>exact absurd (by assumption) (h _))
 unfold eqKind at hk
 split at hk
 ·
  rename_i kk hu
  simp at hk;subst hk
  simp only[eqK]at h
  unfold eqB at h
  split at h
  ·rename_i k1 a k2 c he1 he2
   rw[he1]at hX;rw[he2]at hY
   have e1:=hX.sc_inv
   have e2:=hY.sc_inv
   split at h
   ·rename_i hkk
    subst hkk
    simp at h;subst h
    refine eq_fin hI ho (guard (.inl (by rw[e1];simp)) (.inl (by rw[e1];simp))) ?_
    rw[e1,e2]
    cases neg<;>simp[binOp,Op.intCmp,go_sem,bne]
   ·cases h
  all_goals simp_all
 ·rename_i hu
  simp at hk;subst hk
  simp only[eqK]at h
  unfold eqB at h
  split at h
  ·simp_all
  ·rename_i a c he1 he2
   rw[he1]at hX;rw[he2]at hY
   have e1:=hX.sc_inv
   have e2:=hY.sc_inv
   simp at h;subst h
   refine eq_fin hI ho (guard (.inl (by rw[e1];simp)) (.inl (by rw[e1];simp))) ?_
   rw[e1,e2]
   cases neg<;>simp[binOp,Op.stringOp,go_sem,bne]
  all_goals simp_all
 ·rename_i hu
  simp at hk;subst hk
  simp only[eqK]at h
  have h0:=h
  unfold eqB at h
  split at h
  ·simp_all
  ·simp_all
  ·rename_i a c he1 he2
   rw[he1]at hX;rw[he2]at hY
   have e1:=hX.sc_inv
   have e2:=hY.sc_inv
   rw[he1,he2]at h0
   refine eq_fin hI ho (guard (.inl (by rw[e1];simp)) (.inl (by rw[e1];simp))) (run_bin_eq (by rw[e1];simp) (by rw[e1];simp) (by rw[e1];simp) (by rw[e1];simp) ?_)
   exact run_eqB (d:=9999) (k:=2) (by simp[plainKind,hu]) h0 hX hY
  ·cases h
 ·
  rename_i ka ea hu
  simp at hk;subst hk
  unfold eqK at h
  split at h<;>simp at*<;> try contradiction
  ·rename_i m he1 he2 _
   rw[he1]at hX;rw[he2]at hY
   obtain⟨_,e1⟩:=hX.map_inv
   have e2:=hY.sc_inv
   subst h
   refine eq_fin (b:=false) hI ho (guard (.inl (by rw[e1];simp)) (.inl (by rw[e1];simp))) (run_bin_eq (by rw[e1];simp) (by rw[e1];simp) (by rw[e1];simp) (by rw[e1];simp) ?_)
   rw[e1,e2];exact eqn_map2 9999 hu _
  ·rename_i m he1 he2 _
   rw[he1]at hX;rw[he2]at hY
   obtain⟨_,e2⟩:=hY.map_inv
   have e1:=hX.sc_inv
   subst h
   refine eq_fin (b:=false) hI ho (guard (.inl (by rw[e1];simp)) (.inl (by rw[e1];simp))) (run_bin_eq (by rw[e1];simp) (by rw[e1];simp) (by rw[e1];simp) (by rw[e1];simp) ?_)
   rw[e1,e2];exact eqn_map 9999 hu _
  ·have he1:E.ev fr bx=.sc (.map none):=by assumption
   have he2:E.ev fr b2=.sc (.map none):=by assumption
   rw[he1]at hX;rw[he2]at hY
   have e2:=hY.sc_inv
   have e1:=hX.sc_inv
   subst h
   refine eq_fin (b:=true) hI ho (guard (.inl (by rw[e1];simp)) (.inl (by rw[e1];simp))) (run_bin_eq (by rw[e1];simp) (by rw[e1];simp) (by rw[e1];simp) (by rw[e1];simp) ?_)
   rw[e1,e2];exact eqn_map 9999 hu _
 ·
  rename_i pa ra va hu
  simp at hk;subst hk
  unfold eqK at h
  split at h<;>simp at*<;> try contradiction
  ·rename_i f fa fc he1 he2 _
   rw[he1]at hX;rw[he2]at hY
   obtain⟨_,_,e1,_⟩:=hX.fn_inv
   have e2:=hY.sc_inv
   subst h
   refine eq_fin (b:=false) hI ho (guard (.inl (by rw[e1];simp)) (.inl (by rw[e1];simp))) (run_bin_eq (by rw[e1];simp) (by rw[e1];simp) (by rw[e1];simp) (by rw[e1];simp) ?_)
   rw[e1,e2];exact eqn_fn 9999 hu _ _ _
  ·rename_i f fa fc he1 he2 _
   rw[he1]at hX;rw[he2]at hY
   obtain⟨_,_,e2,_⟩:=hY.fn_inv
   have e1:=hX.sc_inv
   subst h
   refine eq_fin (b:=false) hI ho (guard (.inl (by rw[e1];simp)) (.inl (by rw[e1];simp))) (run_bin_eq (by rw[e1];simp) (by rw[e1];simp) (by rw[e1];simp) (by rw[e1];simp) ?_)
   rw[e1,e2];exact eqn_fn2 9999 hu _ _ _
 ·
  rename_i ms hu
  simp at hk;subst hk
  have hfit':(∃c,x=.const c)\/∃c,y=.const c:=by
   unfold eqFits at hfit
   rw[hu]at hfit
   simp only[Bool.or_eq_true]at hfit
   rcases hfit with h|h
   ·left;cases x<;>simp at h;exact⟨_,rfl⟩
   ·right;cases y<;>simp at h;exact⟨_,rfl⟩
  have guard2:((∀a,ρ x≠.agg a)\/∀a,ρ y≠.agg a)->(eqGuard (if neg then .neq else .eql) t x y (ρ x) (ρ y)).run P w=.ok () w:=by
   intro h2
   exact run_eqGuard_ok (fun _ _=>hfit') (fun a b e1 e2=>by rcases h2 with h|h<;>exact absurd (by assumption) (h _))
  unfold eqK at h
  split at h<;>simp at*<;> try contradiction
  ·rename_i f fa he1 he2 _
   rw[he1]at hX;rw[he2]at hY
   obtain⟨_,e1,_⟩:=hX.iface_inv
   have e2:=hY.sc_inv
   subst h
   refine eq_fin (b:=false) hI ho (guard2 (.inl (by rw[e1];simp))) (run_bin_eq (by rw[e1];simp) (by rw[e1];simp) (by rw[e1];simp) (by rw[e1];simp) ?_)
   rw[e1,e2];exact eqn_if 9999 hu _ _
  ·rename_i f fa he1 he2 _
   rw[he1]at hX;rw[he2]at hY
   obtain⟨_,e2,_⟩:=hY.iface_inv
   have e1:=hX.sc_inv
   subst h
   refine eq_fin (b:=false) hI ho (guard2 (.inl (by rw[e1];simp))) (run_bin_eq (by rw[e1];simp) (by rw[e1];simp) (by rw[e1];simp) (by rw[e1];simp) ?_)
   rw[e1,e2];exact eqn_if2 9999 hu _ _
  ·have he1:E.ev fr bx=.sc .nilIface:=by assumption
   have he2:E.ev fr b2=.sc .nilIface:=by assumption
   rw[he1]at hX;rw[he2]at hY
   have e2:=hY.sc_inv
   have e1:=hX.sc_inv
   subst h
   refine eq_fin (b:=true) hI ho (guard2 (.inl (by rw[e1];simp))) (run_bin_eq (by rw[e1];simp) (by rw[e1];simp) (by rw[e1];simp) (by rw[e1];simp) ?_)
   rw[e1,e2];exact eqn_if3 9999 hu
 ·
  rename_i se hu
  simp at hk;subst hk
  have hfit':y=.const (.slice none 0 0):=by
   unfold eqFits at hfit
   rw[hu]at hfit
   simp only at hfit
   split at hfit
   ·rfl
   ·cases hfit
  subst hfit'
  have e2:ρ (.const (.slice none 0 0))=.slice none 0 0:=hρc _
  unfold eqK at h
  split at h<;>simp at*<;> try contradiction
  rename_i es0 es own he1 he2 _
  rw[he1]at hX
  obtain⟨base,cap,e1,_,_,hc⟩:=hX.sl_inv
  rcases hc with⟨h0,_⟩|⟨bb,off,_,_,rfl,_⟩
  ·cases h0
  subst h
  refine eq_fin (b:=false) hI ho (guard (.inl (by rw[e1];simp)) (.inl (by rw[e1];simp))) (run_bin_eq (by rw[e1];simp) (by rw[e1];simp) (by rw[e1];simp) (by rw[e1];simp) ?_)
  rw[e1,e2]
  exact eqn_sn 9999 hu _ _ _
 ·
  rename_i fs hu
  split at hk
  ·cases hk
  ·rename_i hg
   obtain⟨ks,hks,rfl⟩:=Option.map_eq_some_iff.1 hk
   unfold eqK at h
   split at h<;>simp at*<;> try contradiction
   rename_i ks' xs ys _ _ _
   have he1:E.ev fr bx=.agg xs:=by assumption
   have he2:E.ev fr b2=.agg ys:=by assumption
   have hkk:ks=ks':=by assumption
   subst hkk
   rw[he1]at hX;rw[he2]at hY
   obtain⟨us,e1,_⟩:=hX.agg_inv
   refine eq_fin hI ho (run_eqGuard_ok (fun e=>by rw[e1]at e;cases e) (fun _ _ _ _=>hg)) (run_bin_eq (by rw[e1];simp) (by rw[e1];simp) (by rw[e1];simp) (by rw[e1];simp) ?_)
   exact run_eqAgg hu hks h hX hY 9998
 ·cases hk
end
end Go.Abs
namespace Go.Abs
open Go
section
variable{P:Program}{E:Env}{G G':Ghost}{w w':World}{fr:Fr}{ρ:Operand->Value}{H H':LHeap}{o:Oper}
theorem partsR_build(hρ:EvR E G w fr ρ){place:Nat->Option (Nat×Nat)}:∀(ps:List (Nat×Operand))(bps:List (Nat×Nat×BO)),
  (∀(k:Nat)(p:Nat×Operand)(q:Nat×Nat×BO),ps[k]? = some p->bps[k]? = some q->place p.1=some (q.1,q.2.1)/\cO p.2=some q.2.2)->ps.length=bps.length ->
  PartsR G w place (bps.map fun q=>(q.1,q.2.1,E.ev fr q.2.2)) (ps.map fun p=>(p.1,ρ p.2))
 |[],[],_,_=>trivial
 |p::ps,q::bps,h,hl=>by
  obtain⟨h1,h2⟩:=h 0 p q rfl rfl
  refine⟨h1,hρ _ _ h2,partsR_build hρ ps bps (fun k p q hp hq=>h (k+1) p q (by simpa using hp) (by simpa using hq)) (by simpa using hl)⟩
 |[],_::_,_,hl=>by simp at hl
 |_::_,[],_,hl=>by simp at hl
theorem Inv.claim(hI:Inv G w H)(vs:Array Value)(el:TypeId):
  ∃G',Ext G w G' (w.alloc (.cells vs el))/\Inv G' (w.alloc (.cells vs el)) H/\∀x,G'.Cl w.heap.size x:=by
 let G':Ghost:=⟨G.B,G.n,G.loc,G.asz,G.tk,fun b x=>if b=w.heap.size then .cl else G.own b x,G.rc⟩
 have hg:Grow G w.heap.size G':=⟨rfl,Nat.le_refl _,fun _ _=>rfl,fun _ _=>rfl,fun _ _=>rfl,fun b x hb=>by simp only[G',if_neg hb],rfl⟩
 refine⟨G',hI.ext_fresh _ hg,hI.fresh _ hg hI.n (fun _ _=>rfl) (fun i x hi hl=>?_),fun x=>.inr (by simp only[G',if_true])⟩
 have:=(hI.objs i x hl).1
 omega
theorem val_bs(hI:Inv G w H)(hρ:EvR E G w fr ρ){t e:TypeId}{n s:Nat}{ps:Array (Nat×Operand)}{bl:List BO}{zs:List LV}(ho:o.op=.buildSlice t n ps)
  (ht:P.underlying t=some (.slice e)) (hs:sizeO P e=some s) (hn:ps.size=n) (hbig:n*s<=2^24) (hord:orderedFrom 0 ps.toList=true) (hz:zeroO P e=some zs) (hpos:0<s)
  (hbl:ps.toList.mapM (fun p=>cO p.2)=some bl) (hall:(bl.all fun p=>(E.ev fr p).cells.length==s&&(E.ev fr p).whole)=true):
  ValOk P G w H ρ o (.sl (bl.map (E.ev fr)) .full):=by
 obtain⟨zv,hzv,hA0,hzsz,_⟩:=zero_AR (G:=G) (w:=w) hz
 have hzl:zs.length=s:=by rw[hs]at hzsz;simpa using hzsz.symm
 have hbl2:=mapM_cO (l:=ps.toList.map (·.2)) (bl:=bl) (by rw[List.mapM_map];exact hbl)
 have hbll:bl.length=n:=by rw[hbl2.1];simp[hn]
 let vals:=bl.map (E.ev fr)
 have hvl:vals.length=n:=by simp[vals,hbll]
 have hvx:∀x,x∈vals->x.cells.length=s/\x.whole=true:=by
  intro x hx
  simp only[vals,List.mem_map]at hx
  obtain⟨b,hb,rfl⟩:=hx
  rw[List.all_eq_true]at hall
  have:=hall b hb
  simp only[Bool.and_eq_true,beq_iff_eq]at this
  exact this
 have hu:∀(i:Nat)(e:LV),vals[i]? = some e->e.cells.length=s:=fun i e he=>(hvx e (List.mem_of_getElem? he)).1
 let Z:List LV:=(List.range (n*s)).map fun i=>zs.getD (i % zs.length) .bot
 let zero:Array Value:=if n*s=0 then #[] else zv.cells
 have hZ:AR G w Z ((Array.range (n*s)).map (zero[· % zero.size]!)):=by
  refine⟨by simp[Z],fun i c hc=>?_⟩
  have hi:=lt_of_get hc
  simp[Z]at hi
  have hne:n*s≠0:=by omega
  have hzero:zero=zv.cells:=by simp[zero,hne]
  have hzsize:zv.cells.size=zs.length:=hA0.1
  have hmod:i % zs.length<zs.length:=Nat.mod_lt _ (by omega)
  have hc':c=zs[i % zs.length]:=by
   simp[Z,List.getElem?_eq_getElem,hi,List.getD_eq_getElem?_getD,hmod]at hc
   exact hc.symm
  have:=hA0.2 (i % zs.length) _ (List.getElem?_eq_getElem hmod)
  rw[hc']
  have e1:((Array.range (n*s)).map (zero[· % zero.size]!)).getD i undef=zv.cells.getD (i % zs.length) undef:=by
   rw[hzero,hzsize]
   simp[Array.getD_eq_getD_getElem?,hi,getElem!_def]
   rw[Array.getElem?_eq_getElem (by omega)]
   rfl
  rw[e1];exact this
 have hfl:=fillL_flat vals s 0 [] Z (by simp) (by simp[Z,hvl]) hvx
 simp only[List.nil_append,Nat.zero_add]at hfl
 have hP:PartsR G w (fun i=>some (i*s,s)) (vals.mapIdx fun i x=>(i*s,s,x)) (ps.toList.map fun p=>(p.1,ρ p.2)):=by
  have hbps:vals.mapIdx (fun i x=>(i*s,s,x))=(bl.mapIdx fun i b=>(i*s,s,b)).map fun q=>(q.1,q.2.1,E.ev fr q.2.2):=by
   apply List.ext_getElem?
   intro i
   simp[vals,List.getElem?_mapIdx]
   cases bl[i]?<;>rfl
  rw[hbps]
  refine partsR_build hρ _ _ (fun k p q hp hq=>?_) (by simp[hbll,hn])
  rw[List.getElem?_mapIdx]at hq
  obtain⟨b,hb,rfl⟩:=Option.map_eq_some_iff.1 hq
  obtain⟨x,hx,hcx⟩:=hbl2.2 k b hb
  rw[List.getElem?_map,hp]at hx
  simp at hx;subst hx
  have:=orderedFrom_spec _ _ hord k p hp
  simp at this
  exact⟨by rw[this],hcx⟩
 obtain⟨cells,hfill,hcells⟩:=fill_AR _ _ _ _ _ hP hZ hfl
 obtain⟨G',hx,hI',hcl⟩:=hI.claim cells e
 refine⟨.slice (some (at_ w.heap.size 0)) n n,_,G',.inl ?_,?_,hx,hI'⟩
 ·have hpm:(ps.map fun x=>(x.1,ρ x.2)).toList=ps.toList.map fun p=>(p.1,ρ p.2):=by simp
  have hnb:¬n*s > 2^24:=by omega
  have hrun:(Instr.buildSlice t n (ps.map fun x=>(x.1,ρ x.2))).run P w=.ok (.slice (some (at_ w.heap.size 0)) n n) (w.alloc (.cells cells e)):=by
   simp only[Instr.buildSlice,Sem.run_bind,run_underlying ht,Result.andThen_ok,run_size hs,if_neg hnb]
   by_cases h0:n*s=0
   ·have hz0:zero=#[]:=by simp[zero,h0]
    rw[hz0]at hfill
    have hn0:n=0:=by
     rcases Nat.mul_eq_zero.1 h0 with h|h
     ·exact h
     ·omega
    subst hn0
    have hps:ps=#[]:=by
     apply Array.eq_empty_of_size_eq_zero;exact hn
    subst hps
    simp[Instr.fill]at hfill
    subst hfill
    simp[Instr.fill,Sem.run_bind,newRow]
   ·have hz0:zero=zv.cells:=by simp[zero,h0]
    rw[hz0]at hfill
    simp only[h0,if_false,Sem.run_bind,hzv,Sem.run_pure,Result.andThen_ok,hpm]
    rw[hfill]
    rfl
  simp[execOp,ho,Sem.run_bind,hrun]
 ·have:=sl_of_block (G:=G') (w:=w.alloc (.cells cells e)) (es:=vals) (own:=.full) (b:=w.heap.size) (off:=0) (sz:=s) (cap:=vals.length) (cs:=cells) (vs:=cells) hu (Nat.le_refl _) heap_alloc_new
   ⟨hcells.1,fun i c hc=>⟨(hcells.2 i c hc).1.mono hx,(hcells.2 i c hc).2⟩⟩ (fun k _=>by rw[Nat.zero_add]) (fun k _=>hcl _) rfl
  rwa [hvl]at this
theorem val_bd(hI:Inv G w H)(hρ:EvR E G w fr ρ){t:TypeId}{ps:Array (Nat×Operand)}{zs cs:List LV}{bps:List (Nat×Nat×BO)}{place:Nat->Option (Nat×Nat)}
  (ho:o.op=.build t ps) (hz:zeroO P t=some zs) (hlen:ps.size=bps.length)
  (hpl:∀(k:Nat)(p:Nat×Operand)(q:Nat×Nat×BO),ps.toList[k]? = some p->bps[k]? = some q->place p.1=some (q.1,q.2.1)/\cO p.2=some q.2.2)
  (hrun:∀(zv:Value)(cells:Array Value),(zeroValue t).run P w=.ok zv w->Instr.fill place zv.cells (ps.toList.map fun p=>(p.1,ρ p.2))=some cells->(Instr.build t (ps.map fun x=>(x.1,ρ x.2))).run P w=.ok (.agg cells) w)
  (hf:fillL zs (bps.map fun q=>(q.1,q.2.1,E.ev fr q.2.2))=some cs):ValOk P G w H ρ o (.agg cs):=by
 obtain⟨zv,hzv,hA0,_,_⟩:=zero_AR (G:=G) (w:=w) hz
 obtain⟨cells,hfill,hcells⟩:=fill_AR _ _ _ _ _ (partsR_build hρ _ _ hpl (by simpa using hlen)) hA0 hf
 refine .here hI (v:=.agg cells) ?_ hcells.agg
 simp[execOp,ho,Sem.run_bind,hrun zv cells hzv hfill]
end
end Go.Abs
namespace Go.Abs
open Go
section
variable{P:Program}{E:Env}{G G':Ghost}{w w':World}{fr:Fr}{ρ:Operand->Value}{H H':LHeap}{o:Oper}
theorem checkKey_plain{t:TypeId}{k:Nat}(hk:plainKind P t=some k)(b:Bool)(n:Nat)(v:Value):(Instr.checkKey b (n+1) t v).run P w=.ok () w:=by
 unfold plainKind at hk
 split at hk<;>simp at hk<;>rename_i hu
 all_goals
  simp only[Instr.checkKey,Sem.run_bind,run_underlying hu,Result.andThen_ok]
  rfl
theorem keyKind_cases{t:TypeId}{e:EqK}(h:keyKind P t=some e):(∃k,plainKind P t=some k/\e=.pl k)\/∃fs ks,P.underlying t=some (.struct fs)/\flatStruct P fs t=some ks/\e=.st ks:=by
 unfold keyKind at h
 split at h
 ·rename_i hu;simp at h;exact .inl ⟨0,by simp[plainKind,hu],h.symm⟩
 ·rename_i hu;simp at h;exact .inl ⟨1,by simp[plainKind,hu],h.symm⟩
 ·rename_i hu;simp at h;exact .inl ⟨2,by simp[plainKind,hu],h.symm⟩
 ·rename_i fs hu
  obtain⟨ks,h1,h2⟩:=Option.map_eq_some_iff.1 h
  exact .inr ⟨fs,ks,hu,h1,h2.symm⟩
 ·cases h
theorem eqL_length:∀(ks:List Nat)(xs ys:List LV)(b:Bool),eqL ks xs ys=some b->xs.length=ks.length/\ys.length=ks.length
 |[],[],[],_,_=>⟨rfl,rfl⟩
 |k::ks,x::xs,y::ys,b,h=>by
  simp only[eqL]at h
  split at h
  ·rename_i p q hp hq
   have:=eqL_length ks xs ys q hq
   simp[this]
  ·cases h
 |[],[],_::_,_,h=>by simp[eqL]at h
 |[],_::_,_,_,h=>by simp[eqL]at h
 |_::_,[],_,_,h=>by simp[eqL]at h
 |_::_,_::_,[],_,h=>by simp[eqL]at h
theorem checkFields{b:Bool}{n:Nat}{xs:List LV}{us:Array Value}(hus:us.size=xs.length)(h1:∀(i:Nat) (c:LV),xs[i]? = some c->VR G w c (us.getD i undef))
  (h2:∀i,i<xs.length->(us.getD i undef).oneCell'=true):∀(fs:List Field)(i:Nat)(ks:List Nat),flatFrom P i fs=some ks->i+ks.length<=xs.length ->
   ((forIn fs PUnit.unit fun f (_:PUnit)=>(if f.name ≠ "_" then (do
     let x <- part f.type us f.offset
     Instr.checkKey b (n+1) f.type x
     pure (ForInStep.yield PUnit.unit)) else pure (ForInStep.yield PUnit.unit):Sem (ForInStep PUnit))):Sem PUnit).run P w=.ok PUnit.unit w
 |[],i,ks,hf,hl=>by simp
 |f::r,i,ks,hf,hl=>by
  simp only[flatFrom,Option.ite_none_right_eq_some]at hf
  obtain⟨⟨ho,hn,hs⟩,hf⟩:=hf
  split at hf
  ·rename_i k ks' hk hr
   simp at hf;subst hf
   simp at hl
   have hi:i<xs.length:=by omega
   obtain⟨u,hu,hU⟩:=run_part (P:=P) (off:=f.offset) (nO_of_plain hk hs) hus h1 h2 (show partL xs f.offset none=some xs[i] by rw[ho];exact List.getElem?_eq_getElem hi)
   have ih:=checkFields (b:=b) (n:=n) hus h1 h2 r (i+1) ks' hr (by omega)
   simp only[List.forIn_cons,Sem.run_bind,hn,ne_eq,not_false_eq_true,if_true,hu,Result.andThen_ok,checkKey_plain hk,Sem.run_pure]
   exact ih
  ·cases hf
theorem checkKey_struct{t:TypeId}{fs:Array Field}{ks:List Nat}{xs:List LV}{us:Array Value}(hu:P.underlying t=some (.struct fs))(hf:flatFrom P 0 fs.toList=some ks)(hl:ks.length<=xs.length)
  (hus:us.size=xs.length) (h1:∀(i:Nat)(c:LV),xs[i]? = some c->VR G w c (us.getD i undef)) (h2:∀i,i<xs.length->(us.getD i undef).oneCell'=true) (b:Bool) (n:Nat):
  (Instr.checkKey b (n+2) t (.agg us)).run P w=.ok () w:=by
 have:=checkFields (P:=P) (b:=b) (n:=n) hus h1 h2 fs.toList 0 ks hf (by omega)
 rw[Instr.checkKey]
 simp only[Sem.run_bind,run_underlying hu,Result.andThen_ok]
 rw[<-Array.forIn_toList]
 rw[this]
 rfl
theorem run_checkKey{t:TypeId}{e:EqK}{K:LV}{u:Value}(h:keyKind P t=some e)(hK:VR G w K u)(hs:(eqK e K K).isSome=true)(b:Bool):(Instr.checkKey b 10000 t u).run P w=.ok () w:=by
 rcases keyKind_cases h with⟨k,hk,rfl⟩|⟨fs,ks,hu,hf,rfl⟩
 ·exact checkKey_plain hk b 9999 u
 ·unfold eqK at hs
  split at hs<;>simp at *
  rename_i ks' xs ys he1 he2
  have:ks=ks':=by assumption
  subst this
  obtain⟨us,rfl,hus,h1,h2⟩:=hK.agg_inv
  unfold flatStruct at hf
  split at hf
  ·cases hf
  ·obtain⟨y,hy⟩:=Option.isSome_iff_exists.1 hs
   exact checkKey_struct hu hf (by
    have:eqL ks xs xs=some y:=by
     have e:xs=ys:=by simp_all
     subst e;exact hy
    rw[(eqL_length _ _ _ _ this).1];exact Nat.le_refl _) hus h1 h2 b 9998
def EntsR(G:Ghost)(w:World)(es:List (LV×LV))(ents:List MapEntry):Prop:=
 ents.length=es.length/\∀(i:Nat)(kv:LV×LV)(e:MapEntry),es[i]? = some kv->ents[i]? = some e->VR G w kv.1 e.key/\VR G w kv.2 e.val
theorem EntsR.tail{kv:LV×LV}{es:List (LV×LV)}{e:MapEntry}{ents:List MapEntry}(h:EntsR G w (kv::es) (e::ents)):VR G w kv.1 e.key/\VR G w kv.2 e.val/\EntsR G w es ents:=
 ⟨(h.2 0 kv e rfl rfl).1,(h.2 0 kv e rfl rfl).2,by have:=h.1;simp at this;exact this,fun i kv e h1 h2=>h.2 (i+1) kv e (by simpa using h1) (by simpa using h2)⟩
def foundAt(e:EqK)(K:LV):List (LV×LV)->Nat->Option (Option (Nat×LV))
 |[],_=>some none
 |(j,v)::r,i=>match eqK e K j with
  |some true=>some (some (i,v))
  |some false=>foundAt e K r (i+1)
  |none=>none
theorem foundAt_find(e:EqK)(K:LV):∀(es:List (LV×LV))(i:Nat),(foundAt e K es i).map (·.map (·.2))=findL e K es
 |[],_=>rfl
 |(j,v)::r,i=>by
  simp only[foundAt,findL]
  cases hc:eqK e K j with
  |none=>rfl
  |some b=>
   cases b
   ·exact foundAt_find e K r (i+1)
   ·rfl
theorem eqK_st_inv{ks:List Nat}{X Y:LV}{b:Bool}(h:eqK (.st ks) X Y=some b):∃xs ys,X=.agg xs/\Y=.agg ys/\eqL ks xs ys=some b:=by
 cases X<;>cases Y<;>simp[eqK]at h
 exact⟨_,_,rfl,rfl,h⟩
theorem foundAt_get{e:EqK}{K:LV}:∀(es:List (LV×LV))(i:Nat)(p:Nat×LV),foundAt e K es i=some (some p)->i<=p.1/\∃k,es[p.1 - i]? = some (k,p.2)/\eqK e K k=some true
 |[],_,_,h=>by simp[foundAt]at h
 |(j,v)::r,i,p,h=>by
  simp only[foundAt]at h
  split at h
  ·rename_i he
   simp at h;subst h
   exact⟨Nat.le_refl _,j,by simp,he⟩
  ·obtain⟨h1,k,h2,h3⟩:=foundAt_get r (i+1) p h
   refine⟨by omega,k,?_,h3⟩
   obtain⟨m,hm⟩:∃m,p.1 - i=m+1:=⟨p.1 - i - 1,by omega⟩
   rw[hm,List.getElem?_cons_succ,show m=p.1 - (i+1) by omega]
   exact h2
  ·cases h
def Found(G:Ghost)(w:World)(ents:List MapEntry)(i0:Nat):Option (Nat×LV)->Option (Nat×Value)->Prop
 |none,none=>True
 |some (i,x),some (j,v)=>i=j/\VR G w x v/\∃e,ents[i - i0]? = some e/\e.val=v
 |_,_=>False
theorem Found.cons{e:MapEntry}{ents:List MapEntry}{i0:Nat}{r:Option (Nat×LV)}{r':Option (Nat×Value)}(h:Found G w ents (i0+1) r r')(hr:∀p,r=some p->i0+1<=p.1):Found G w (e::ents) i0 r r':=by
 cases r with
 |none=>cases r'<;>exact h
 |some p=>
  obtain⟨i,x⟩:=p
  cases r' with
  |none=>exact h
  |some q=>
   obtain⟨h1,h2,e',h3,h4⟩:=h
   refine⟨h1,h2,e',?_,h4⟩
   have:=hr _ rfl
   obtain⟨m,hm⟩:∃m,i - i0=m+1:=⟨i - i0 - 1,by simp at this;omega⟩
   rw[hm,List.getElem?_cons_succ,show m=i - (i0+1) by omega]
   exact h3
theorem run_findNow{t:TypeId}{d:TypeDesc}{k:Nat}{K:LV}{u:Value}(hk:plainKind P t=some k)(hd:P.underlying t=some d)(hK:VR G w K u):
  ∀(es:List (LV×LV))(ents:List MapEntry)(i:Nat)(r:Option (Nat×LV)),EntsR G w es ents->foundAt (.pl k) K es i=some r->∃r',Instr.findNow d u ents i=some r'/\Found G w ents i r r'
 |[],[],i,r,_,h=>by simp[foundAt]at h;subst h;exact⟨none,rfl,trivial⟩
 |(j,v)::es,e::ents,i,r,hE,h=>by
  obtain⟨h1,h2,h3⟩:=hE.tail
  have hs:∀b,eqK (.pl k) K j=some b->Instr.sameNow d u e.key=some b:=by
   intro b hb
   simp only[eqK]at hb
   unfold eqB at hb
   unfold plainKind at hk
   rw[hd]at hk
   split at hb
   ·obtain rfl:=hK.sc_inv
    have hj:=h1.sc_inv
    rw[hj]
    split at hb
    ·rename_i hkk
     subst hkk
     simp at hb;subst hb
     split at hk<;>simp at hk
     simp_all [Instr.sameNow]
    ·cases hb
   ·obtain rfl:=hK.sc_inv
    have hj:=h1.sc_inv
    rw[hj]
    simp at hb;subst hb
    split at hk<;>simp at hk
    simp_all [Instr.sameNow,beq_toListBytes]
   ·obtain rfl:=hK.sc_inv
    have hj:=h1.sc_inv
    rw[hj]
    simp at hb;subst hb
    split at hk<;>simp at hk
    simp_all [Instr.sameNow]
   ·cases hb
  simp only[foundAt]at h
  split at h
  ·rename_i he
   simp at h;subst h
   exact⟨some (i,e.val),by simp[Instr.findNow,hs true he],rfl,h2,e,by simp,rfl⟩
  ·rename_i he
   obtain⟨r',k1,k2⟩:=run_findNow hk hd hK es ents (i+1) r h3 h
   refine⟨r',by simp[Instr.findNow,hs false he,k1],k2.cons (fun p hp=>?_)⟩
   subst hp
   exact(foundAt_get es (i+1) p h).1
  ·cases h
 |[],_::_,_,_,hE,_=>by have:=hE.1;simp at this
 |_::_,[],_,_,hE,_=>by have:=hE.1;simp at this
theorem run_findAsking{t:TypeId}{fs:Array Field}{ks:List Nat}{K:LV}{u:Value}(hu:P.underlying t=some (.struct fs))(hf:flatStruct P fs t=some ks)(hK:VR G w K u):
  ∀(es:List (LV×LV))(ents:List MapEntry)(i:Nat)(r:Option (Nat×LV)),EntsR G w es ents->foundAt (.st ks) K es i=some r ->
   ∃r',(Instr.findAsking t u ents i).run P w=.ok r' w/\Found G w ents i r r'
 |[],[],i,r,_,h=>by simp[foundAt]at h;subst h;exact⟨none,rfl,trivial⟩
 |(j,v)::es,e::ents,i,r,hE,h=>by
  obtain⟨h1,h2,h3⟩:=hE.tail
  have hs:∀b,eqK (.st ks) K j=some b->(Op.equal t u e.key).run P w=.ok b w:=by
   intro b hb
   obtain⟨xs,ys,rfl,rfl,hb⟩:=eqK_st_inv hb
   exact run_eqAgg hu hf hb hK h1 9998
  simp only[foundAt]at h
  split at h
  ·rename_i he
   simp at h;subst h
   exact⟨some (i,e.val),by simp[Instr.findAsking,Sem.run_bind,hs true he],rfl,h2,e,by simp,rfl⟩
  ·rename_i he
   obtain⟨r',k1,k2⟩:=run_findAsking hu hf hK es ents (i+1) r h3 h
   refine⟨r',by simp[Instr.findAsking,Sem.run_bind,hs false he,k1],k2.cons (fun p hp=>?_)⟩
   subst hp
   exact(foundAt_get es (i+1) p h).1
  ·cases h
 |[],_::_,_,_,hE,_=>by have:=hE.1;simp at this
 |_::_,[],_,_,hE,_=>by have:=hE.1;simp at this
theorem run_findKey{t:TypeId}{e:EqK}{K:LV}{u:Value}{es:List (LV×LV)}{ents:List MapEntry}{r:Option (Nat×LV)}(hk:keyKind P t=some e)(hK:VR G w K u)(hE:EntsR G w es ents)
  (h:foundAt e K es 0=some r):∃r',(Instr.findKey t u ents).run P w=.ok r' w/\Found G w ents 0 r r':=by
 rcases keyKind_cases hk with⟨k,hk2,rfl⟩|⟨fs,ks,hu,hf,rfl⟩
 ·have hd:∃d,P.underlying t=some d:=by
   unfold plainKind at hk2
   split at hk2<;>simp at hk2<;>rename_i hu<;>exact⟨_,hu⟩
  obtain⟨d,hd⟩:=hd
  obtain⟨r',h1,h2⟩:=run_findNow hk2 hd hK es ents 0 r hE h
  exact⟨r',by simp[Instr.findKey,Sem.run_bind,run_underlying hd,h1],h2⟩
 ·cases ents with
  |nil=>
   have:es=[]:=by have:=hE.1;simpa using this.symm
   subst this
   simp[foundAt]at h;subst h
   exact⟨none,by simp[Instr.findKey,run_underlying hu,Instr.findNow],trivial⟩
  |cons e0 ents=>
   obtain⟨r',h1,h2⟩:=run_findAsking hu hf hK es (e0::ents) 0 r hE h
   refine⟨r',?_,h2⟩
   have hn:Instr.findNow (.struct fs) u (e0::ents) 0=none:=by
    simp[Instr.findNow,Instr.sameNow]
   simp[Instr.findKey,Sem.run_bind,run_underlying hu,hn,h1]
theorem val_lk(hI:Inv G w H)(hρ:EvR E G w fr ρ){t kt et:TypeId}{x i:Operand}{bx bi:BO}{ok:Bool}{e:EqK}{z:LV}(ho:o.op=.lookup t x i ok)
  (ht:P.underlying t=some (.map kt et)) (hk:keyKind P kt=some e) (hz:zeroV P et=some z) (hx:cO x=some bx) (hi:cO i=some bi) (hself:(eqK e (E.ev fr bi) (E.ev fr bi)).isSome=true):
  (E.ev fr bx=.sc (.map none)->ValOk P G w H ρ o (if ok then .tup [z,.bool false] else z)) /\
  (∀m es,E.ev fr bx=.map m->MapR G w m es->findL e (E.ev fr bi) es=some none->ValOk P G w H ρ o (if ok then .tup [z,.bool false] else z)) /\
  (∀m es v,E.ev fr bx=.map m->MapR G w m es->findL e (E.ev fr bi) es=some (some v)->ValOk P G w H ρ o (if ok then .tup [v,.bool true] else v)):=by
 have hX:=hρ _ _ hx
 have hK:=hρ _ _ hi
 obtain⟨zv,hzv,hZ⟩:=zeroV_VR (P:=P) (G:=G) (w:=w) hz
 have pair:∀(a:LV)(v:Value)(b:Bool),VR G w a v->VR G w (if ok then .tup [a,.bool b] else a) (if ok then .tuple #[v,.bool b] else v):=by
  intro a v b h
  cases ok
  ·exact h
  ·refine .tup rfl (fun i c hc=>?_)
   match i,hc with
   |0,hc=>simp at hc;subst hc;exact h
   |1,hc=>simp at hc;subst hc;exact .sc _
   |i+2,hc=>simp at hc
 have main:∀(m:Nat)(es:List (LV×LV))(r:Option LV),E.ev fr bx=.map m->MapR G w m es->findL e (E.ev fr bi) es=some r ->
   ∃v b,(Instr.lookup t (ρ x) (ρ i) ok).run P w=.ok (if ok then .tuple #[v,.bool b] else v) w/\(match r with|none=>v=zv/\b=false|some y=>VR G w y v/\b=true):=by
  intro m es r hm hl hf
  rw[hm]at hX
  obtain⟨_,hv⟩:=hX.map_inv
  obtain⟨ents,clock,hh,_,_,hsz,hvr,_⟩:=hl
  have hE:EntsR G w es ents.toList:=⟨by simpa using hsz,fun i kv e h1 h2=>hvr i kv e h1 (by simpa using h2)⟩
  rw[<-foundAt_find _ _ _ 0]at hf
  obtain⟨r0,hr0,hr1⟩:=Option.map_eq_some_iff.1 hf
  obtain⟨r',h1,h2⟩:=run_findKey hk hK hE hr0
  have hck:=run_checkKey (P:=P) hk hK hself ents.isEmpty
  have base:(Instr.lookup t (ρ x) (ρ i) ok).run P w=(match r' with
    |some (_,v)=>.ok (if ok then .tuple #[v,.bool true] else v) w
    |none=>.ok (if ok then .tuple #[zv,.bool false] else zv) w):=by
   simp only[Instr.lookup,Sem.run_bind,run_underlying ht,hv,Result.andThen_ok,run_getObj_map hh,Sem.run_pure,hck,h1]
   cases r' with
   |none=>simp[Sem.run_bind,hzv]
   |some p=>simp
  cases r0 with
  |none=>
   simp at hr1;subst hr1
   cases r' with
   |none=>exact⟨zv,false,base,rfl,rfl⟩
   |some p=>exact h2.elim
  |some p=>
   simp at hr1;subst hr1
   cases r' with
   |none=>exact h2.elim
   |some q=>obtain⟨q1,q2⟩:=q;exact⟨q2,true,base,h2.2.1,rfl⟩
 refine⟨fun hm=>?_,fun m es hm hl hf=>?_,fun m es v hm hl hf=>?_⟩
 ·rw[hm]at hX
  have hv:=hX.sc_inv
  have hck:=run_checkKey (P:=P) hk hK hself true
  obtain⟨r',h1,h2⟩:=run_findKey (es:=[]) (ents:=[]) hk hK ⟨rfl,fun _ _ _ h=>by simp at h⟩ (r:=none) rfl
  have h3:r'=none:=by cases r' with
   |none=>rfl
   |some p=>exact h2.elim
  subst h3
  refine .here hI (v:=if ok then .tuple #[zv,.bool false] else zv) ?_ (pair z zv false hZ)
  have:(Instr.lookup t (ρ x) (ρ i) ok).run P w=.ok (if ok then .tuple #[zv,.bool false] else zv) w:=by
   simp only[Instr.lookup,Sem.run_bind,run_underlying ht,hv,Result.andThen_ok,Sem.run_pure]
   simp only[List.isEmpty_toArray,List.isEmpty_nil,hck,Result.andThen_ok,h1,Sem.run_bind,hzv,Sem.run_pure]
  simp[execOp,ho,Sem.run_bind,this]
 ·obtain⟨v,b,h1,h2,h3⟩:=main m es none hm hl hf
  subst h2;subst h3
  refine .here hI (v:=if ok then .tuple #[v,.bool false] else v) ?_ (pair z v false hZ)
  simp[execOp,ho,Sem.run_bind,h1]
 ·obtain⟨v',b,h1,h2,h3⟩:=main m es (some v) hm hl hf
  subst h3
  refine .here hI (v:=if ok then .tuple #[v',.bool true] else v') ?_ (pair v v' true h2)
  simp[execOp,ho,Sem.run_bind,h1]
theorem findU_findL{e:EqK}{K:LV}:∀{es:List (LV×LV)}{r:Option LV},findU e K es=some r->findL e K es=some r
 |[],_,h=>h
 |(j,v)::es,r,h=>by
  simp only[findU]at h
  split at h
  ·rename_i h1 h2
   simp at h;subst h
   simp[findL,h1]
  ·rename_i x h1 h2
   simp at h;subst h
   simp only[findL,h1]
   exact findU_findL h2
  ·cases h
theorem findU_swap(e:EqK)(K:LV)(a b:LV×LV)(l:List (LV×LV)):findU e K (a::b::l)=findU e K (b::a::l):=by
 obtain⟨j,v⟩:=a
 obtain⟨j',v'⟩:=b
 simp only[findU]
 cases eqK e K j with
 |none=>
  cases eqK e K j' with
  |none=>rfl
  |some c=>cases c<;>cases findU e K l with
   |none=>rfl
   |some x=>cases x<;>rfl
 |some c=>
  cases eqK e K j' with
  |none=>cases c<;>cases findU e K l with
   |none=>rfl
   |some x=>cases x<;>rfl
  |some c'=>cases c<;>cases c'<;>cases findU e K l with
   |none=>rfl
   |some x=>cases x<;>rfl
theorem findU_perm{e:EqK}{K:LV}{l l':List (LV×LV)}(h:l.Perm l'):findU e K l=findU e K l':=by
 induction h with
 |nil=>rfl
 |cons x _ ih=>obtain⟨j,v⟩:=x;simp only[findU,ih]
 |swap x y l=>exact findU_swap e K y x l
 |trans _ _ ih1 ih2=>exact ih1.trans ih2
end
end Go.Abs
namespace Go.Abs
open Go
section
variable{P:Program}{E:Env}{G G':Ghost}{w w':World}{fr:Fr}{ρ:Operand->Value}{H H':LHeap}{o:Oper}
theorem byteArray_ext{a b:ByteArray}(h:(a.toList==b.toList)=true):a=b:=by
 have h1:=eq_of_beq h
 rw[ByteArray.toList_eq,ByteArray.toList_eq]at h1
 obtain⟨⟨x⟩⟩:=a
 obtain⟨⟨y⟩⟩:=b
 simp at h1
 rw[h1]
theorem byteArray_beq(a:ByteArray):(a==a)=true:=by rw[beq_toListBytes];simp
theorem eqB_true{k:Nat}{X Y:LV}(h:eqB k X Y=some true):∃u,X=.sc u/\Y=.sc u/\Instr.sameBits 9999 u u=true/\Instr.sameBits 10000 u u=true:=by
 unfold eqB at h
 split at h
 ·split at h
  ·rename_i hk
   subst hk
   simp at h;subst h
   exact⟨_,rfl,rfl,by simp[Instr.sameBits],by simp[Instr.sameBits]⟩
  ·cases h
 ·simp only[Option.some.injEq]at h
  rw[byteArray_ext h]
  exact⟨_,rfl,rfl,by simp[Instr.sameBits,byteArray_beq],by simp[Instr.sameBits,byteArray_beq]⟩
 ·simp at h;subst h
  exact⟨_,rfl,rfl,by simp[Instr.sameBits],by simp[Instr.sameBits]⟩
 ·cases h
theorem eqL_true:∀(ks:List Nat)(xs ys:List LV),eqL ks xs ys=some true->xs=ys/\∀(i:Nat)(c:LV),xs[i]? = some c->∃u,c=.sc u/\Instr.sameBits 9999 u u=true
 |[],[],[],_=>⟨rfl,fun i c hc=>by simp at hc⟩
 |k::ks,x::xs,y::ys,h=>by
  simp only[eqL]at h
  split at h
  ·rename_i p q hp hq
   simp at h
   obtain⟨rfl,rfl⟩:=h
   obtain⟨u,rfl,rfl,h1,_⟩:=eqB_true hp
   obtain⟨rfl,h2⟩:=eqL_true ks xs ys hq
   refine⟨rfl,fun i c hc=>?_⟩
   cases i with
   |zero=>simp at hc;subst hc;exact⟨u,rfl,h1⟩
   |succ i=>exact h2 i c (by simpa using hc)
  ·cases h
 |[],[],_::_,h=>by simp[eqL]at h
 |[],_::_,_,h=>by simp[eqL]at h
 |_::_,[],_,h=>by simp[eqL]at h
 |_::_,_::_,[],h=>by simp[eqL]at h
theorem key_same{t:TypeId}{e:EqK}{K j:LV}{u v:Value}(hk:keyKind P t=some e)(h:eqK e K j=some true)(hK:VR G w K u)(hj:VR G w j v):K=j/\u=v/\Instr.sameBits 10000 v u=true:=by
 rcases keyKind_cases hk with⟨k,_,rfl⟩|⟨fs,ks,_,_,rfl⟩
 ·obtain⟨c,rfl,rfl,_,h2⟩:=eqB_true (show eqB k K j=some true from h)
  obtain rfl:=hK.sc_inv
  obtain rfl:=hj.sc_inv
  exact⟨rfl,rfl,h2⟩
 ·obtain⟨xs,ys,rfl,rfl,h⟩:=eqK_st_inv h
  obtain⟨rfl,h2⟩:=eqL_true ks xs ys h
  obtain⟨us,rfl,hus,hu,_⟩:=hK.agg_inv
  obtain⟨vs,rfl,hvs,hv,_⟩:=hj.agg_inv
  have hsc:∀i,i<us.size->∃a,us[i]? = some a/\vs[i]? = some a/\Instr.sameBits 9999 a a=true:=by
   intro i hi
   have hx:=List.getElem?_eq_getElem (l:=xs) (i:=i) (by omega)
   obtain⟨a,ha,hb⟩:=h2 i _ hx
   have e1:=hu i _ hx
   have e2:=hv i _ hx
   rw[ha]at e1 e2
   have e1:=e1.sc_inv
   have e2:=e2.sc_inv
   exact⟨a,by rw[getD_some (us:=us) hi,e1],by rw[getD_some (us:=vs) (by omega),e2],hb⟩
  have huv:us=vs:=by
   apply Array.ext_getElem?
   intro i
   by_cases hi:i<us.size
   ·obtain⟨a,h3,h4,_⟩:=hsc i hi;rw[h3,h4]
   ·rw[Array.getElem?_eq_none (by omega),Array.getElem?_eq_none (by omega)]
  subst huv
  refine⟨rfl,rfl,?_⟩
  show Instr.sameBits (9999+1) _ _=true
  simp only[Instr.sameBits,beq_self_eq_true,Bool.true_and,List.all_eq_true]
  intro p hp
  obtain⟨i,hi,he⟩:=List.getElem_of_mem hp
  simp at hi
  obtain⟨a,h3,_,h5⟩:=hsc i hi
  have:p=(a,a):=by
   rw[<-he]
   rw[Array.getElem?_eq_getElem hi]at h3
   simp at h3
   simp[h3]
  rw[this];exact h5
theorem setL_spec(e:EqK)(K V:LV):∀(es:List (LV×LV))(i:Nat)(es':List (LV×LV)),setL e K V es=some es' ->
  ∃r,foundAt e K es i=some r/\match r with
   |none=>es'=es++[(K,V)]
   |some p=>i<=p.1/\∃k v,es[p.1 - i]? = some (k,v)/\eqK e K k=some true/\es'=es.set (p.1 - i) (k,V)
 |[],i,es',h=>by simp[setL]at h;subst h;exact⟨none,rfl,rfl⟩
 |(j,u)::r,i,es',h=>by
  simp only[setL]at h
  cases hc:eqK e K j with
  |none=>rw[hc]at h;cases h
  |some b=>
   rw[hc]at h
   cases b
   ·obtain⟨es2,h2,rfl⟩:=Option.map_eq_some_iff.1 h
    obtain⟨q,h3,h4⟩:=setL_spec e K V r (i+1) es2 h2
    refine⟨q,by simp[foundAt,hc,h3],?_⟩
    cases q with
    |none=>simp at h4 ⊢;exact h4
    |some p=>
     obtain⟨h5,k,v,h6,h7,h8⟩:=h4
     obtain⟨m,hm⟩:∃m,p.1 - i=m+1:=⟨p.1 - i - 1,by omega⟩
     have hm2:p.1 - (i+1)=m:=by omega
     refine⟨by omega,k,v,?_,h7,?_⟩
     ·rw[hm,List.getElem?_cons_succ,<-hm2];exact h6
     ·rw[hm,List.set_cons_succ,<-hm2,h8]
   ·simp at h;subst h
    exact⟨some (i,u),by simp[foundAt,hc],Nat.le_refl _,j,u,by simp,hc,by simp⟩
theorem ext_setObj{r:Nat}{ob ob':Obj}(h:w.heap[r]? = some ob)(hne:∀vs el fz,ob≠.cells vs el fz)(hB:¬(G.B r).isSome)(hG:G'.B=G.B)(hn:G.n<=G'.n)
  (hloc:∀o,o<G.n->G'.loc o=G.loc o) (hasz:∀o,o<G.n->G'.asz o=G.asz o) (htk:∀t,t<G.n->G'.tk t=G.tk t) (hown:∀b x,G.own b x=.cl->G'.own b x=.cl) (d:Nat) (hrc:G'.rc=G.rc:=by rfl):
  Ext G w G' { w with heap:=w.heap.setIfInBounds r ob',drawn:=d } where
 os:=rfl
 tape:=rfl
 output:=rfl
 size:=by simp
 hB:=hG
 rc:=hrc
 block k hk:=by
  have hk':k≠r:=fun e=>hB (e▸hk)
  show (w.heap.setIfInBounds r ob')[k]? = _
  rw[Array.getElem?_setIfInBounds_ne (fun e=>hk' e.symm)]
 n:=hn
 loc:=hloc
 asz:=hasz
 cl b x hb:=by
  refine⟨hown b x hb,fun v hv=>?_⟩
  have:b≠r:=by
   intro e;subst e
   unfold World.cell? at hv
   rw[show (at_ b x).block=b from rfl,h]at hv
   cases ob<;>simp at hv
   exact absurd rfl (hne _ _ _)
  have e1:({ w with heap:=w.heap.setIfInBounds r ob',drawn:=d }:World).heap[b]? = w.heap[b]?:=by
   show (w.heap.setIfInBounds r ob')[b]? = _
   rw[Array.getElem?_setIfInBounds_ne (fun e=>this e.symm)]
  rw[cell?_of_block e1];exact hv
 tk t ht m b c hm:=⟨m,b,c,by rw[htk t ht];exact hm,Nat.le_refl _,fun _=>⟨rfl,rfl⟩⟩
theorem turn_setObj{r:Nat}{ob ob':Obj}(h:w.heap[r]? = some ob)(hne:∀vs el fz,ob≠.cells vs el fz)(d:Nat):
  Turn w { w with heap:=w.heap.setIfInBounds r ob',drawn:=d } (fun _ _=>False) (fun k=>k=r) where
 cells k vs el fz hk:=by
  have:k≠r:=by intro e;subst e;rw[h]at hk;simp at hk;exact hne _ _ _ hk
  refine⟨vs,?_,rfl,fun _ _=>rfl⟩
  show (w.heap.setIfInBounds r ob')[k]? = _
  rw[Array.getElem?_setIfInBounds_ne (fun e=>this e.symm)];exact hk
 other k ob2 hk _ hv:=by
  show (w.heap.setIfInBounds r ob')[k]? = _
  rw[Array.getElem?_setIfInBounds_ne (fun e=>hv e.symm)];exact hk
theorem heap_setObj{r:Nat}{ob ob':Obj}(h:w.heap[r]? = some ob)(d:Nat):({ w with heap:=w.heap.setIfInBounds r ob',drawn:=d }:World).heap[r]? = some ob':=by
 show (w.heap.setIfInBounds r ob')[r]? = _
 rw[Array.getElem?_setIfInBounds_self]
 rw[if_pos (lt_of_heap h)]
theorem Inv.setObj(hI:Inv G w H){m:Nat}{lo lo':LObj}{ob ob':Obj}(hl:look m H.objs=some lo)(h:w.heap[G.loc m]? = some ob)(hne:∀vs el fz,ob≠.cells vs el fz)(hB:¬(G.B (G.loc m)).isSome)
  (hown:G.own (G.loc m) 0=.obj m) (d:Nat)
  (hmap:∀es',lo'=.map es'->∃es ents clock,lo=.map es/\ob=.map ents clock/\es.length<=es'.length/\(es.length=es'.length->∀ents' clock',ob'=.map ents' clock' ->
   ents'.size=ents.size/\∀i,(ents'.getD i default).born=(ents.getD i default).born))
  (hobj:Ext G w G { w with heap:=w.heap.setIfInBounds (G.loc m) ob',drawn:=d }->ObjR G { w with heap:=w.heap.setIfInBounds (G.loc m) ob',drawn:=d } (H.put m lo') m lo'):
  Ext G w G { w with heap:=w.heap.setIfInBounds (G.loc m) ob',drawn:=d }/\Inv G { w with heap:=w.heap.setIfInBounds (G.loc m) ob',drawn:=d } (H.put m lo'):=by
 have hx:Ext G w G { w with heap:=w.heap.setIfInBounds (G.loc m) ob',drawn:=d }:=ext_setObj h hne hB rfl (Nat.le_refl _) (fun _ _=>rfl) (fun _ _=>rfl) (fun _ _=>rfl) (fun _ _ h=>h) d
 have hlp:=fun j=>look_put (j:=j) (ob':=lo') hl
 refine⟨hx,Inv.step (fun i=>i=m) hI hx (turn_setObj h hne d) hI.n (fun b x hb=>hI.free b x (by simpa using hb)) hI.old (fun i x hi hh=>by rw[hlp,if_neg hi]at hh;exact hh)
  (fun _ _ _ _ _ h=>h) (fun i hi ho hc=>?_) (fun _ _ _ _=>⟨fun h=>h,fun h=>h⟩) (fun _ _ _=>rfl) (fun j es' hj hh=>?_) (fun i x hi hh=>?_)⟩
 ·rw[hc,hown]at ho
  simp at ho
  exact hi ho.symm
 ·rw[hlp]at hh
  by_cases hjm:j=m
  ·subst hjm
   rw[if_pos rfl]at hh
   simp at hh
   obtain⟨es,ents,clock,h1,h2,h3,h4⟩:=hmap es' hh
   refine⟨es,by rw[hl,h1],h3,fun he ents' clock' hp=>?_⟩
   rw[heap_setObj h d]at hp
   simp at hp
   obtain⟨h5,h6⟩:=h4 he ents' clock' hp
   exact⟨ents,clock,by rw[h,h2],h5,h6⟩
  ·rw[if_neg hjm]at hh
   obtain⟨_,ents,clock,q1,_,q3,_⟩:=hI.objs j _ hh
   have:G.loc j≠G.loc m:=by
    intro e
    rw[e,hown]at q3
    simp at q3
    exact hjm q3.symm
   refine⟨es',hh,Nat.le_refl _,fun _ ents' clock' hp=>?_⟩
   have e2:({ w with heap:=w.heap.setIfInBounds (G.loc m) ob',drawn:=d }:World).heap[G.loc j]? = w.heap[G.loc j]?:=by
    show (w.heap.setIfInBounds (G.loc m) ob')[G.loc j]? = _
    rw[Array.getElem?_setIfInBounds_ne (fun e=>this e.symm)]
   rw[e2]at hp
   exact⟨ents',clock',hp,rfl,fun _=>rfl⟩
 ·subst hi
  rw[hlp,if_pos rfl]at hh
  simp at hh;subst hh
  exact⟨(hI.objs i _ hl).1,hobj hx⟩
theorem eff_mu(hI:Inv G w H)(hρ:EvR E G w fr ρ){t kt et:TypeId}{m k x:Operand}{bm bk bx:BO}{e:EqK}(ho:o.op=.mapUpdate t m k x\/o.op=.insert t m k x)
  (ht:P.underlying t=some (.map kt et)) (hk:keyKind P kt=some e) (hm:cO m=some bm) (hkk:cO k=some bk) (hx:cO x=some bx)
  (hself:(eqK e (E.ev fr bk) (E.ev fr bk)).isSome=true) {q:Nat} {es es':List (LV×LV)} (hq:E.ev fr bm=.map q) (hl:look q H.objs=some (.map es)) (hs:setL e (E.ev fr bk) (E.ev fr bx) es=some es'):
  EffOk P G w ρ o .bot (H.put q (.map es')):=by
 have hM:=hρ _ _ hm
 have hK:=hρ _ _ hkk
 have hX:=hρ _ _ hx
 rw[hq]at hM
 obtain⟨_,hv⟩:=hM.map_inv
 obtain⟨hqn,ents,clock,hh,hB,hown,hsz,hvr,hborn,hclk,hce⟩:=hI.objs q _ hl
 have hE:EntsR G w es ents.toList:=⟨by simpa using hsz,fun i kv e h1 h2=>hvr i kv e h1 (by simpa using h2)⟩
 obtain⟨r,hr,hspec⟩:=setL_spec e (E.ev fr bk) (E.ev fr bx) es 0 es' hs
 obtain⟨r',h1,h2⟩:=run_findKey hk hK hE hr
 have hck:=run_checkKey (P:=P) hk hK hself false
 have fin:∀ob',(Instr.mapUpdate t (ρ m) (ρ k) (ρ x)).run P w=.ok () { w with heap:=w.heap.setIfInBounds (G.loc q) ob' } ->
   (∀es2,LObj.map es'=.map es2->∃es0 ents0 clock0,LObj.map es=.map es0/\Obj.map ents clock=.map ents0 clock0/\es0.length<=es2.length/\(es0.length=es2.length->∀ents' clock',ob'=.map ents' clock' ->
    ents'.size=ents0.size/\∀i,(ents'.getD i default).born=(ents0.getD i default).born)) ->
   (Ext G w G { w with heap:=w.heap.setIfInBounds (G.loc q) ob',drawn:=w.drawn }->ObjR G { w with heap:=w.heap.setIfInBounds (G.loc q) ob',drawn:=w.drawn } (H.put q (.map es')) q (.map es')) ->
   EffOk P G w ρ o .bot (H.put q (.map es')):=by
  intro ob' hrun hmap hobj
  obtain⟨q1,q2⟩:=hI.setObj (ob':=ob') hl hh (by simp) hB hown w.drawn hmap hobj
  refine⟨undef,_,G,.inr ⟨?_,rfl⟩,.bot _,q1,q2⟩
  rcases ho with ho|ho<;>simp[execOp,ho,Sem.run_bind,hrun]
 have hset:∀ob',(setObj (G.loc q) ob').run P w=.ok () { w with heap:=w.heap.setIfInBounds (G.loc q) ob' }:=by
  intro ob'
  simp[setObj,Sem.run,hh]
 cases r with
 |none=>
  simp at hspec
  subst hspec
  have h3:r'=none:=by cases r' with
   |none=>rfl
   |some p=>exact h2.elim
  subst h3
  refine fin (.map (ents.push { key:=ρ k,val:=ρ x,born:=clock }) (clock+1)) ?_ ?_ ?_
  ·simp only[Instr.mapUpdate,Sem.run_bind,run_underlying ht,hv,Result.andThen_ok,run_getObj_map hh,hck,h1,hset]
  ·intro es2 he
   simp at he;subst he
   exact⟨es,ents,clock,rfl,rfl,by simp,fun h=>by simp at h⟩
  ·intro hx'
   refine⟨ents.push { key:=ρ k,val:=ρ x,born:=clock },clock+1,heap_setObj hh _,hB,hown,by simp[hsz],fun i kv e h3 h4=>?_,fun i j e1 e2 h3 h4 h5=>?_,fun i e1 h3=>?_,by simp[hce]⟩
   ·by_cases hi:i<es.length
    ·rw[List.getElem?_append_left hi]at h3
     rw[Array.getElem?_push,if_neg (by omega)]at h4
     exact⟨(hvr i kv e h3 h4).1.mono hx',(hvr i kv e h3 h4).2.mono hx'⟩
    ·rw[List.getElem?_append_right (by omega)]at h3
     have hi2:i=es.length:=by
      have:=lt_of_get h3
      simp at this;omega
     subst hi2
     simp at h3;subst h3
     rw[<-hsz]at h4
     simp at h4;subst h4
     exact⟨hK.mono hx',hX.mono hx'⟩
   ·rw[Array.getElem?_push]at h3 h4
    by_cases hi:i=ents.size
    ·rw[if_pos hi]at h3
     simp at h3;subst h3
     by_cases hj:j=ents.size
     ·omega
     ·rw[if_neg hj]at h4
      have:=hclk j e2 h4
      simp at h5;omega
    ·rw[if_neg hi]at h3
     by_cases hj:j=ents.size
     ·rw[if_pos hj]at h4
      simp at h4;subst h4
      have:=hclk i e1 h3
      simp at h5;omega
     ·rw[if_neg hj]at h4
      exact hborn i j e1 e2 h3 h4 h5
   ·rw[Array.getElem?_push]at h3
    by_cases hi:i=ents.size
    ·rw[if_pos hi]at h3
     simp at h3;subst h3
     exact Nat.lt_succ_self _
    ·rw[if_neg hi]at h3
     exact Nat.lt_succ_of_lt (hclk i e1 h3)
 |some p=>
  obtain⟨_,k0,v0,h3,h4,rfl⟩:=hspec
  simp only[Nat.sub_zero]at h3 h4 ⊢
  cases r' with
  |none=>exact h2.elim
  |some p'=>
   obtain⟨i,pv⟩:=p
   obtain⟨i',pv'⟩:=p'
   obtain⟨hii,_,e0,he0,_⟩:=h2
   subst hii
   simp only[Nat.sub_zero,Array.getElem?_toList]at he0 h3
   obtain⟨hKe,hue,hsb⟩:=key_same hk h4 hK (hvr i (k0,v0) e0 h3 he0).1
   have hlt:i<es.length:=lt_of_get h3
   refine fin (.map (ents.modify i fun e=>{ e with key:=ρ k,val:=ρ x }) clock) ?_ ?_ ?_
   ·have hks:(Instr.keyThatStays (((ents[i]?).map (·.key)).getD (ρ k)) (ρ k)).run P w=.ok (ρ k) w:=by
     simp[Instr.keyThatStays,he0,hsb]
    simp only[Instr.mapUpdate,Sem.run_bind,run_underlying ht,hv,Result.andThen_ok,run_getObj_map hh,hck,h1,hks,hset]
   ·intro es2 he
    simp at he;subst he
    refine⟨es,ents,clock,rfl,rfl,by simp,fun _ ents' clock' hp=>?_⟩
    simp at hp
    obtain⟨rfl,_⟩:=hp
    refine⟨by simp,fun j=>?_⟩
    rw[Array.getD_eq_getD_getElem?,Array.getD_eq_getD_getElem?,Array.getElem?_modify]
    split
    ·cases ents[j]?<;>rfl
    ·rfl
   ·intro hx'
    refine⟨_,clock,heap_setObj hh _,hB,hown,by simp[hsz],fun j kv e h5 h6=>?_,fun j1 j2 e1 e2 h5 h6 h7=>?_,fun j e1 h5=>?_,by simp[hce]⟩
    ·rw[Array.getElem?_modify]at h6
     rw[List.getElem?_set]at h5
     simp only[Nat.sub_zero]at h5
     by_cases hj:i=j
     ·subst hj
      rw[if_pos rfl,if_pos hlt]at h5
      rw[if_pos rfl,he0]at h6
      simp at h5 h6
      subst h5;subst h6
      exact⟨by rw[<-hKe];exact hK.mono hx',hX.mono hx'⟩
     ·rw[if_neg hj]at h5 h6
      exact⟨(hvr j kv e h5 h6).1.mono hx',(hvr j kv e h5 h6).2.mono hx'⟩
    ·rw[Array.getElem?_modify]at h5 h6
     have g:∀j (e:MapEntry),(if i=j then Option.map (fun e:MapEntry=>{ e with key:=ρ k,val:=ρ x }) ents[j]? else ents[j]?)=some e->∃e',ents[j]? = some e'/\e'.born=e.born:=by
      intro j e h
      split at h
      ·obtain⟨e',h8,rfl⟩:=Option.map_eq_some_iff.1 h
       exact⟨e',h8,rfl⟩
      ·exact⟨e,h,rfl⟩
     obtain⟨a1,a2,a3⟩:=g j1 e1 h5
     obtain⟨b1,b2,b3⟩:=g j2 e2 h6
     exact hborn j1 j2 a1 b1 a2 b2 (by rw[a3,b3,h7])
    ·rw[Array.getElem?_modify]at h5
     split at h5
     ·obtain⟨e',h8,rfl⟩:=Option.map_eq_some_iff.1 h5
      exact hclk j e' h8
     ·exact hclk j e1 h5
end
end Go.Abs
namespace Go.Abs
open Go
section
variable{P:Program}{E:Env}{G G':Ghost}{w w':World}{fr:Fr}{ρ:Operand->Value}{H H':LHeap}{o:Oper}
theorem eff_rg_nil(hI:Inv G w H)(hρ:EvR E G w fr ρ){t kt et:TypeId}{x:Operand}{bx:BO}(ho:o.op=.range t x)(ht:P.underlying t=some (.map kt et))(hx:cO x=some bx)
  (hn:E.ev fr bx=.sc (.map none)):EffOk P G w ρ o (.ptr H.next 0) (H.alloc (.iter H.next [] none 0)):=by
 have hX:=hρ _ _ hx
 rw[hn]at hX
 have hv:=hX.sc_inv
 obtain⟨h1,h2⟩:=hI.alloc (.mapIter none 0 #[] 0) (.iter H.next [] none 0) (0,0) (fun hx=>by
  refine⟨by rw[Ghost.add_loc];exact hI.hB',by rw[Ghost.add_loc];exact Ghost.add_own _ _ _ _ _,?_⟩
  rw[if_pos rfl,Ghost.add_loc]
  exact⟨rfl,rfl,rfl,_,_,_,heap_alloc_new⟩)
 refine⟨_,_,_,.inl ?_,ptr_new,h2,h1⟩
 simp[execOp,ho,Instr.range,Sem.run_bind,run_underlying ht,hv]
theorem eff_rg(hI:Inv G w H)(hρ:EvR E G w fr ρ){t kt et:TypeId}{x:Operand}{bx:BO}(ho:o.op=.range t x)(ht:P.underlying t=some (.map kt et))(hx:cO x=some bx)
  {m:Nat} {es:List (LV×LV)} (hm:E.ev fr bx=.map m) (hl:look m H.objs=some (.map es)):EffOk P G w ρ o (.ptr H.next 0) (H.alloc (.iter m (List.range es.length) none es.length)):=by
 have hX:=hρ _ _ hx
 rw[hm]at hX
 obtain⟨_,hv⟩:=hX.map_inv
 obtain⟨hmn,ents,clock,hh,hB,hown,hsz,hvr,hborn,hclk,hce⟩:=hI.objs m _ hl
 have hne:m≠H.next:=by have:=hI.n;omega
 obtain⟨h1,h2⟩:=hI.alloc (.mapIter (some (G.loc m)) clock #[] clock) (.iter m (List.range es.length) none es.length) (0,0) (fun hx=>by
  refine⟨by rw[Ghost.add_loc];exact hI.hB',by rw[Ghost.add_loc];exact Ghost.add_own _ _ _ _ _,?_⟩
  have hlm:(G.add H.next w.heap.size (0,0)).loc m=G.loc m:=by simp[Ghost.add,hne]
  rw[if_neg hne,Ghost.add_loc,hlm]
  refine⟨#[],clock,by rw[<-hce];exact heap_alloc_new,by have:=hI.n;simp[Ghost.add];omega,hce,fun es2 h=>?_,fun es2 h hl2 ents2 clock2 hh2=>?_⟩
  ·rw[look_alloc_old hne,hl]at h
   simp at h;subst h;exact Nat.le_refl _
  ·rw[heap_alloc_lt (lt_of_heap hh),hh]at hh2
   simp at hh2
   obtain⟨rfl,rfl⟩:=hh2
   refine⟨?_,fun i hi=>by cases hi⟩
   rw[hsz]
   symm
   rw[List.filter_eq_self]
   intro a _
   simp)
 refine⟨_,_,_,.inl ?_,ptr_new,h2,h1⟩
 simp[execOp,ho,Instr.range,Sem.run_bind,run_underlying ht,hv,run_getObj_map hh]
theorem val_ta(hI:Inv G w H)(hρ:EvR E G w fr ρ){t xt:TypeId}{x:Operand}{bx:BO}{z:LV}{d:TypeDesc}(ho:o.op=.typeAssert x xt t true)(hd:P.underlying t=some d)
  (hni:∀ms,d≠.interface ms) (hz:zeroV P t=some z) (hx:cO x=some bx):
  (∀u v,E.ev fr bx=.iface u v->ValOk P G w H ρ o (if u=t then .tup [v,.bool true] else .tup [z,.bool false])) /\
  (E.ev fr bx=.sc .nilIface->ValOk P G w H ρ o (.tup [z,.bool false])):=by
 have hX:=hρ _ _ hx
 obtain⟨zv,hzv,hZ⟩:=zeroV_VR (P:=P) (G:=G) (w:=w) hz
 have pair:∀(a:LV)(v:Value)(b:Bool),VR G w a v->VR G w (.tup [a,.bool b]) (.tuple #[v,.bool b]):=by
  intro a v b h
  refine .tup rfl (fun i c hc=>?_)
  match i,hc with
  |0,hc=>simp at hc;subst hc;exact h
  |1,hc=>simp at hc;subst hc;exact .sc _
  |i+2,hc=>simp at hc
 constructor
 ·intro u v hu
  rw[hu]at hX
  obtain⟨y,hv,hV⟩:=hX.iface_inv
  by_cases hut:u=t
  ·rw[if_pos hut]
   refine .here hI (v:=.tuple #[y,.bool true]) ?_ (pair _ _ _ hV)
   have:(Instr.typeAssert (ρ x) xt t true).run P w=.ok (.tuple #[y,.bool true]) w:=by
    rw[hv]
    simp only[Instr.typeAssert,Sem.run_bind,run_underlying hd,Result.andThen_ok]
    cases d<;>first|exact absurd rfl (hni _)|simp[hut]
   simp[execOp,ho,this]
  ·rw[if_neg hut]
   refine .here hI (v:=.tuple #[zv,.bool false]) ?_ (pair _ _ _ hZ)
   have:(Instr.typeAssert (ρ x) xt t true).run P w=.ok (.tuple #[zv,.bool false]) w:=by
    rw[hv]
    simp only[Instr.typeAssert,Sem.run_bind,run_underlying hd,Result.andThen_ok]
    cases d<;>first|exact absurd rfl (hni _)|simp[hut,Sem.run_bind,hzv]
   simp[execOp,ho,this]
 ·intro hu
  rw[hu]at hX
  have hv:=hX.sc_inv
  refine .here hI (v:=.tuple #[zv,.bool false]) ?_ (pair _ _ _ hZ)
  have:(Instr.typeAssert (ρ x) xt t true).run P w=.ok (.tuple #[zv,.bool false]) w:=by
   rw[hv]
   simp only[Instr.typeAssert,Sem.run_bind,run_underlying hd,Result.andThen_ok]
   cases d<;>first|exact absurd rfl (hni _)|simp[Sem.run_bind,hzv]
  simp[execOp,ho,this]
theorem eraseIdx_filter:∀(l:List Nat)(j q:Nat),l.Nodup->l[j]? = some q->l.eraseIdx j=l.filter (fun i=>i != q)
 |[],j,q,_,h=>by simp at h
 |a::l,0,q,hn,h=>by
  simp at h;subst h
  rw[List.nodup_cons]at hn
  simp only[List.eraseIdx_cons_zero]
  rw[List.filter_cons]
  simp
  symm
  rw[List.filter_eq_self]
  intro b hb
  simp
  intro e;subst e;exact hn.1 hb
 |a::l,j+1,q,hn,h=>by
  rw[List.nodup_cons]at hn
  simp at h
  have hne:a≠q:=fun e=>hn.1 (e▸List.mem_of_getElem? h)
  simp only[List.eraseIdx_cons_succ]
  rw[List.filter_cons]
  simp[hne,eraseIdx_filter l j q hn.2 h]
theorem run_getObj_iter{r:Nat}{m:Option Nat}{a:Nat}{s:Array Nat}{b:Nat}(h:w.heap[r]? = some (.mapIter m a s b)):(getObj r).run P w=.ok (.mapIter m a s b) w:=by
 simp[getObj,Sem.run,h]
theorem val_en(hI:Inv G w H)(hρ:EvR E G w fr ρ){x:Operand}{bx:BO}(ho:o.op=.entry x)(hx:cO x=some bx){q m i n:Nat}{left:List Nat}{es:List (LV×LV)}{kv:LV×LV}
  (hq:E.ev fr bx=.ptr q 0) (hl:look q H.objs=some (.iter m left (some i) n)) (hm:look m H.objs=some (.map es)) (hn:es.length=n) (hkv:es[i]? = some kv):ValOk P G w H ρ o (.tup [kv.1,kv.2]):=by
 have hX:=hρ _ _ hx
 rw[hq]at hX
 obtain⟨_,hv⟩:=hX.ptr_inv
 obtain⟨_,hB,hown,hit⟩:=hI.objs q _ hl
 split at hit
 ·obtain⟨_,_,h,_⟩:=hit;cases h
 ·rename_i hmq
  obtain⟨seen,stepped,h1,h2,h3,_,h4⟩:=hit
  obtain⟨_,ents,clock,hh,_,_,hsz,hvr,hborn,hclk,hce⟩:=hI.objs m _ hm
  obtain⟨h5,h6⟩:=h4 es hm hn ents clock hh
  obtain⟨hi,hback⟩:=h6 i rfl
  have he:=Array.getElem?_eq_getElem hi
  have hd:ents.getD i default=ents[i]:=by rw[Array.getD_eq_getD_getElem?,he];rfl
  rw[hd]at hback
  have hfind:ents.find? (fun e=>e.born==ents[i].born)=some ents[i]:=by
   rw[<-Array.find?_toList,List.find?_eq_some_iff_getElem]
   refine⟨by simp,i,by simpa using hi,by simp,fun j hj=>?_⟩
   simp
   intro hc
   have:=hborn j i _ _ (Array.getElem?_eq_getElem (by omega)) he hc
   omega
  obtain⟨v1,v2⟩:=hvr i kv _ hkv he
  refine .here hI (v:=.tuple #[ents[i].key,ents[i].val]) ?_ ?_
  ·have hclk2:(clock != stepped)=false:=by simp[hce,hn,h3]
   have:(Instr.entry (ρ x)).run P w=.ok (.tuple #[ents[i].key,ents[i].val]) w:=by
    rw[hv]
    simp only[Instr.entry,Sem.run_bind,run_getObj_iter h1,Result.andThen_ok,hback,run_getObj_map hh,hclk2,Bool.false_eq_true,if_false,hfind]
    rfl
   simp[execOp,ho,this]
  ·refine .tup rfl (fun k c hc=>?_)
   match k,hc with
   |0,hc=>simp at hc;subst hc;exact v1
   |1,hc=>simp at hc;subst hc;exact v2
   |k+2,hc=>simp at hc
theorem val_nx_done(hI:Inv G w H)(hρ:EvR E G w fr ρ){x:Operand}{bx:BO}(ho:o.op=.next x false)(hx:cO x=some bx){q m n:Nat}{cur:Option Nat}
  (hq:E.ev fr bx=.ptr q 0) (hl:look q H.objs=some (.iter m [] cur n)) (hm:m=q\/∃es,look m H.objs=some (.map es)/\es.length=n):ValOk P G w H ρ o (.tup [.bool false]):=by
 have hX:=hρ _ _ hx
 rw[hq]at hX
 obtain⟨_,hv⟩:=hX.ptr_inv
 obtain⟨_,hB,hown,hit⟩:=hI.objs q _ hl
 have one:VR G w (.tup [.bool false]) (.tuple #[.bool false]):=.tup rfl (fun k c hc=>by
  match k,hc with
  |0,hc=>simp at hc;subst hc;exact .sc _
  |k+1,hc=>simp at hc)
 split at hit
 ·obtain⟨_,_,_,si,se,st,h1⟩:=hit
  refine .here hI (v:=.tuple #[.bool false]) ?_ one
  have:(Instr.next (ρ x) false o.type).run P w=.ok (.tuple #[.bool false]) w:=by
   rw[hv]
   simp only[Instr.next,Sem.run_bind,run_getObj_iter h1,Result.andThen_ok]
   rfl
  simp[execOp,ho,this]
 ·rename_i hmq
  obtain⟨seen,stepped,h1,h2,h3,_,h4⟩:=hit
  rcases hm with hm|⟨es,hm,hn⟩
  ·exact absurd hm hmq
  ·obtain⟨_,ents,clock,hh,_,_,hsz,hvr,hborn,hclk,hce⟩:=hI.objs m _ hm
   obtain⟨h5,_⟩:=h4 es hm hn ents clock hh
   have hnone:ents.filter (fun e=>!seen.contains e.born)=#[]:=by
    rw[Array.filter_eq_empty_iff]
    intro e he
    obtain⟨i,hi,rfl⟩:=Array.getElem_of_mem he
    have:=congrArg (fun l=>i∈l) h5
    simp at this
    have h6:=this hi
    rw[Array.getElem?_eq_getElem hi]at h6
    simpa using h6
   refine .here hI (v:=.tuple #[.bool false]) ?_ one
   have hguard:(!seen.isEmpty&&!ents.isEmpty&&ents.all (fun e=>decide (e.born ≥ stepped)))=false:=by
    by_cases h0:ents.size=0
    ·have:ents=#[]:=Array.eq_empty_of_size_eq_zero h0
     simp[this]
    ·have h7:=hclk 0 _ (Array.getElem?_eq_getElem (by omega))
     have:ents.all (fun e=>decide (e.born ≥ stepped))=false:=by
      rw[Array.all_eq_false]
      refine⟨0,by omega,?_⟩
      simp;omega
     simp[this]
   have:(Instr.next (ρ x) false o.type).run P w=.ok (.tuple #[.bool false]) w:=by
    rw[hv]
    simp only[Instr.next,Sem.run_bind,run_getObj_iter h1,run_getObj_map hh,Result.andThen_ok,hguard,Bool.false_eq_true,if_false,hnone]
    simp[Question.forced,Sem.run_bind]
   simp[execOp,ho,this]
theorem eff_nx(hI:Inv G w H)(hρ:EvR E G w fr ρ){x:Operand}{bx:BO}(ho:o.op=.next x false)(hx:cO x=some bx){q m n:Nat}{left:List Nat}{cur:Option Nat}{es:List (LV×LV)}
  (hq:E.ev fr bx=.ptr q 0) (hl:look q H.objs=some (.iter m left cur n)) (hne:left≠[]) (hm:look m H.objs=some (.map es)) (hn:es.length=n):
  ∃j p kv,left[j]? = some p/\es[p]? = some kv/\EffOk P G w ρ o (.tup [.bool true,kv.1,kv.2]) (H.put q (.iter m (left.eraseIdx j) (some p) n)):=by
 have hX:=hρ _ _ hx
 rw[hq]at hX
 obtain⟨_,hv⟩:=hX.ptr_inv
 obtain⟨hqn,hB,hown,hit⟩:=hI.objs q _ hl
 split at hit
 ·exact absurd hit.1 hne
 ·rename_i hmq
  obtain⟨seen,stepped,h1,h2,h3,h3',h4⟩:=hit
  obtain⟨_,ents,clock,hh,hBm,hownm,hsz,hvr,hborn,hclk,hce⟩:=hI.objs m _ hm
  obtain⟨h5,_⟩:=h4 es hm hn ents clock hh
  let L:=ents.filter (fun e=>!seen.contains e.born)
  have hL:L.toList=left.map (fun i=>ents.getD i default):=by
   have e1:ents.toList=(List.range ents.size).map (fun i=>ents.getD i default):=by
    apply List.ext_getElem?
    intro i
    by_cases hi:i<ents.size
    ·simp[hi]
    ·simp[hi]
   have e2:L.toList=ents.toList.filter (fun e=>!seen.contains e.born):=by simp[L]
   rw[e2,e1,List.filter_map,h5]
   rfl
  have hLsize:L.size=left.length:=by
   have:=congrArg List.length hL
   simpa using this
  have hpos:0<left.length:=List.length_pos_iff.2 hne
  have hold:L.filter (fun e=>decide (e.born<n))=L:=by
   rw[Array.filter_eq_self]
   intro e he
   have:e∈ents:=by
    have:e∈ents.filter (fun e=>!seen.contains e.born):=he
    simp at this;exact this.1
   obtain⟨i,hi,rfl⟩:=Array.getElem_of_mem this
   have:=hclk i _ (Array.getElem?_eq_getElem hi)
   simp;omega
  have hnew:L.filter (fun e=>decide (e.born ≥ n))=#[]:=by
   rw[Array.filter_eq_empty_iff]
   intro e he
   have:e∈ents:=by
    have:e∈ents.filter (fun e=>!seen.contains e.born):=he
    simp at this;exact this.1
   obtain⟨i,hi,rfl⟩:=Array.getElem_of_mem this
   have:=hclk i _ (Array.getElem?_eq_getElem hi)
   simp;omega
  have hguard:(!seen.isEmpty&&!ents.isEmpty&&ents.all (fun e=>decide (e.born ≥ stepped)))=false:=by
   by_cases h0:ents.size=0
   ·have:ents=#[]:=Array.eq_empty_of_size_eq_zero h0
    simp[this]
   ·have h7:=hclk 0 _ (Array.getElem?_eq_getElem (by omega))
    have:ents.all (fun e=>decide (e.born ≥ stepped))=false:=by
     rw[Array.all_eq_false]
     refine⟨0,by omega,?_⟩
     simp;omega
    simp[this]
  obtain⟨j,d,hj,hdraw⟩:∃j d,j<left.length/\(choose (.mapNext left.length)).run P w=.ok j { w with drawn:=d }:=by
   by_cases h0:left.length<=1
   ·refine⟨0,w.drawn,hpos,?_⟩
    simp[run_choose,Question.forced,h0]
   ·refine⟨(Question.mapNext left.length).cut (w.tape w.drawn (.mapNext left.length)),w.drawn+1,?_,?_⟩
    ·simp only[Question.cut];exact Nat.mod_lt _ hpos
    ·have:(Question.mapNext left.length).forced=false:=by simp[Question.forced];omega
     simp only[choose,Sem.run,this,Bool.false_eq_true,if_false]
  have hp:=List.getElem?_eq_getElem hj
  have hpm:left[j]∈left:=List.getElem_mem hj
  have hpl:left[j]<ents.size/\seen.contains (ents.getD left[j] default).born=false:=by
   have h8:left[j]∈(List.range ents.size).filter (fun i=>!seen.contains (ents.getD i default).born):=by rw[<-h5];exact hpm
   simpa using h8
  have hkv:=List.getElem?_eq_getElem (l:=es) (i:=left[j]) (by omega)
  have he:=Array.getElem?_eq_getElem hpl.1
  have hget:ents.getD left[j] default=ents[left[j]]:=by rw[Array.getD_eq_getD_getElem?,he];rfl
  have hLj:L[j]? = some ents[left[j]]:=by
   have:=congrArg (fun l=>l[j]?) hL
   simp only[Array.getElem?_toList,List.getElem?_map,hp,Option.map_some,hget]at this
   exact this
  obtain⟨v1,v2⟩:=hvr _ _ _ hkv he
  refine⟨j,left[j],es[left[j]],hp,hkv,?_⟩
  have hnd:left.Nodup:=by rw[h5];exact List.Pairwise.filter _ List.nodup_range
  obtain⟨q1,q2⟩:=hI.setObj (ob':=.mapIter (some (G.loc m)) n (seen.push ents[left[j]].born) clock) (lo':=.iter m (left.eraseIdx j) (some left[j]) n) hl h1 (by simp) hB hown d (by simp) (fun hx'=>by
   refine⟨hB,hown,?_⟩
   rw[if_neg hmq]
   have hlm:G.loc m≠G.loc q:=by
    intro e
    rw[e]at hownm
    rw[hownm]at hown
    simp at hown
    exact hmq hown
   have hmap2:∀es2,look m (H.put q (.iter m (left.eraseIdx j) (some left[j]) n)).objs=some (.map es2)->es2=es:=by
    intro es2 h
    rw[look_put hl,if_neg hmq,hm]at h
    simpa using h.symm
   refine⟨seen.push ents[left[j]].born,clock,heap_setObj h1 d,h2,by omega,fun es2 h=>by rw[hmap2 es2 h];omega,fun es2 h hl2 ents2 clock2 hh2=>?_⟩
   have e2:({ w with heap:=w.heap.setIfInBounds (G.loc q) (.mapIter (some (G.loc m)) n (seen.push ents[left[j]].born) clock),drawn:=d }:World).heap[G.loc m]? = w.heap[G.loc m]?:=by
    show (w.heap.setIfInBounds _ _)[G.loc m]? = _
    rw[Array.getElem?_setIfInBounds_ne (fun e=>hlm e.symm)]
   rw[e2,hh]at hh2
   simp at hh2
   obtain⟨rfl,rfl⟩:=hh2
   refine⟨?_,fun i hi=>?_⟩
   ·rw[eraseIdx_filter left j _ hnd hp]
    conv=>lhs;arg 2;rw[h5]
    rw[List.filter_filter]
    apply List.filter_congr
    intro i hi
    simp only[List.mem_range]at hi
    have hgi:ents.getD i default=ents[i]:=by rw[Array.getD_eq_getD_getElem?,Array.getElem?_eq_getElem hi];rfl
    rw[hgi]
    have hpush:∀a b:Nat,(seen.push b).contains a=(seen.contains a||a==b):=by
     intro a b;rw[Bool.eq_iff_iff];simp
    rw[hpush,Bool.not_or,Bool.and_comm]
    congr 1
    by_cases hc:i=left[j]
    ·subst hc;simp
    ·have:ents[i].born≠ents[left[j]].born:=fun e=>hc (hborn _ _ _ _ (Array.getElem?_eq_getElem hi) he e)
     have a1:(i != left[j])=true:=by simpa using hc
     have a2:(ents[i].born==ents[left[j]].born)=false:=by simpa using this
     rw[a1,a2];rfl
   ·simp only[Option.some.injEq]at hi
    subst hi
    refine⟨hpl.1,?_⟩
    rw[hget];simp)
  refine⟨.tuple #[.bool true,ents[left[j]].key,ents[left[j]].val],_,G,.inl ?_,?_,q1,q2⟩
  ·have hset:∀w2:World,w2.heap=w.heap->∀ob',(setObj (G.loc q) ob').run P w2=.ok () { w2 with heap:=w2.heap.setIfInBounds (G.loc q) ob' }:=by
    intro w2 hw2 ob'
    simp[setObj,Sem.run,hw2,h1]
   have:(Instr.next (ρ x) false o.type).run P w=.ok (.tuple #[.bool true,ents[left[j]].key,ents[left[j]].val]) { w with heap:=w.heap.setIfInBounds (G.loc q) (.mapIter (some (G.loc m)) n (seen.push ents[left[j]].born) clock),drawn:=d }:=by
    rw[hv]
    have hLe:ents.filter (fun e=>!seen.contains e.born)=L:=rfl
    have hemp:L.isEmpty=false:=by
     simp[Array.isEmpty,hLsize];omega
    have hcand:((if L.isEmpty=true then #[none] else #[])++Array.map some (L++#[]):Array (Option MapEntry))=L.map some:=by simp[hemp]
    have hcs:(L.map some).size=left.length:=by simp[hLsize]
    have hcj:(L.map some)[j]? = some (some ents[left[j]]):=by simp[hLj]
    simp only[Instr.next,Sem.run_bind,run_getObj_iter h1,run_getObj_map hh,Result.andThen_ok,hguard,Bool.false_eq_true,if_false,hLe,hold,hnew,hcand,hcs,hdraw,hcj]
    rw[hset { w with drawn:=d } rfl]
    rfl
   simp[execOp,ho,Sem.run_bind,this]
  ·refine .tup rfl (fun k c hc=>?_)
   match k,hc with
   |0,hc=>simp at hc;subst hc;exact .sc _
   |1,hc=>simp at hc;subst hc;exact v1.mono q1
   |2,hc=>simp at hc;subst hc;exact v2.mono q1
   |k+3,hc=>simp at hc
end
end Go.Abs
namespace Go.Abs
open Go
section
variable{P:Program}{o:Oper}
theorem inv_al{z:List LV}(h:cOp P o=some (.al z)):∃t,o.op=.alloc t/\zeroO P t=some z:=by
 unfold cOp at h
 split at h
 all_goals ((repeat' split at h)<;>simp[Option.map_eq_some_iff,Option.bind_eq_some_iff]at h)
 rename_i t ho _ _
 exact⟨t,ho,h⟩
theorem bldO_zero{t e:TypeId}(h:bldO P t=some e):zeroO P t=some [.sc (.pointer none),.sl [] .full]:=by
 unfold bldO at h
 split at h
 ·split at h
  ·split at h
   ·split at h
    ·split at h
     ·rename_i hz;exact hz
     ·cases h
    ·cases h
   ·cases h
  ·cases h
 ·cases h
theorem inv_nb{t e:TypeId}(h:cOp P o=some (.nb t e)):o.op=.alloc t/\bldO P t=some e:=by
 unfold cOp at h
 split at h
 all_goals ((repeat' split at h)<;>simp[Option.map_eq_some_iff,Option.bind_eq_some_iff]at h)
 rename_i t' ho _ e' he
 obtain⟨rfl,rfl⟩:=h
 exact⟨ho,he⟩
theorem inv_bx{x:BO}(h:cOp P o=some (.bx x)):∃t y,o.op=.box t y/\cO y=some x:=by
 unfold cOp at h
 split at h
 all_goals ((repeat' split at h)<;>simp[Option.map_eq_some_iff,Option.bind_eq_some_iff]at h)
 rename_i t y ho
 exact⟨t,y,ho,h⟩
theorem inv_st{n:Nat}{a x:BO}(h:cOp P o=some (.st n a x)):∃t y z,o.op=.store t y z/\sizeO P t=some n/\cO y=some a/\cO z=some x:=by
 unfold cOp at h
 split at h
 all_goals ((repeat' split at h)<;>simp[Option.map_eq_some_iff,Option.bind_eq_some_iff]at h)
 rename_i t y z ho
 obtain⟨n',h1,b1,h2,b2,h3,rfl,rfl,rfl⟩:=h
 exact⟨t,y,z,ho,h1,h2,h3⟩
theorem inv_mk(h:cOp P o=some .mk):∃t,o.op=.makeMap t none:=by
 unfold cOp at h
 split at h
 all_goals ((repeat' split at h)<;>simp[Option.map_eq_some_iff,Option.bind_eq_some_iff]at h)
 rename_i t ho
 exact⟨t,ho⟩
theorem inv_mu{e:EqK}{m k v:BO}(h:cOp P o=some (.mu e m k v)):∃t kt et x y z,(o.op=.mapUpdate t x y z\/o.op=.insert t x y z)/\P.underlying t=some (.map kt et)/\keyKind P kt=some e/\cO x=some m/\cO y=some k/\cO z=some v:=by
 unfold cOp at h
 split at h
 all_goals ((repeat' split at h)<;>simp[Option.map_eq_some_iff,Option.bind_eq_some_iff]at h)
 ·rename_i t x y z ho _ kt et hu
  obtain⟨e',h1,b1,h2,b2,h3,b3,h4,rfl,rfl,rfl,rfl⟩:=h
  exact⟨t,kt,et,x,y,z,.inl ho,hu,h1,h2,h3,h4⟩
 ·rename_i t x y z ho _ kt et hu
  obtain⟨e',h1,b1,h2,b2,h3,b3,h4,rfl,rfl,rfl,rfl⟩:=h
  exact⟨t,kt,et,x,y,z,.inr ho,hu,h1,h2,h3,h4⟩
theorem inv_rg{x:BO}(h:cOp P o=some (.rg x)):∃t kt et y,o.op=.range t y/\P.underlying t=some (.map kt et)/\cO y=some x:=by
 unfold cOp at h
 split at h
 all_goals ((repeat' split at h)<;>simp[Option.map_eq_some_iff,Option.bind_eq_some_iff]at h)
 rename_i t y ho _ kt et hu
 exact⟨t,kt,et,y,ho,hu,h⟩
theorem inv_nx{x:BO}(h:cOp P o=some (.nx x)):∃y,o.op=.next y false/\cO y=some x:=by
 unfold cOp at h
 split at h
 all_goals ((repeat' split at h)<;>simp[Option.map_eq_some_iff,Option.bind_eq_some_iff]at h)
 rename_i y ho
 exact⟨y,ho,h⟩
theorem inv_pn{x:BO}(h:cOp P o=some (.pn x)):∃y,o.op=.panic y/\cO y=some x:=by
 unfold cOp at h
 split at h
 all_goals ((repeat' split at h)<;>simp[Option.map_eq_some_iff,Option.bind_eq_some_iff]at h)
 rename_i y ho
 exact⟨y,ho,h⟩
theorem inv_cf{f:FuncId}{args:List BO}(h:cOp P o=some (.cf f args)):∃c,o.op=.call c/\c.callee=.value (.func f)/\c.args.toList.mapM cO=some args:=by
 unfold cOp at h
 split at h
 all_goals ((repeat' split at h)<;>simp[Option.map_eq_some_iff,Option.bind_eq_some_iff]at h)
 rename_i g as ts ho
 obtain⟨h1,rfl⟩:=h
 exact⟨_,ho,rfl,h1⟩
theorem inv_cl{x:BO}{args:List BO}(h:cOp P o=some (.cl x args)):∃c y,o.op=.call c/\c.callee=.value y/\cO y=some x/\c.args.toList.mapM cO=some args:=by
 unfold cOp at h
 split at h
 all_goals ((repeat' split at h)<;>simp[Option.map_eq_some_iff,Option.bind_eq_some_iff]at h)
 rename_i y as ts _ ho
 exact⟨_,y,ho,rfl,h⟩
theorem inv_df{x:BO}{args:List BO}(h:cOp P o=some (.df x args)):∃c y,o.op=.defer c/\c.callee=.value y/\cO y=some x/\c.args.toList.mapM cO=some args:=by
 unfold cOp at h
 split at h
 all_goals ((repeat' split at h)<;>simp[Option.map_eq_some_iff,Option.bind_eq_some_iff]at h)
 rename_i y as ts ho
 exact⟨_,y,ho,rfl,h⟩
theorem inv_ms{z:List LV}{n:BO}(h:cOp P o=some (.ms z n)):∃t e i ti,o.op=.makeSlice t (.tmp i) (.tmp i)/\P.underlying t=some (.slice e)/\P.info? e=some ti/\ti.bytes<=2^12/\zeroO P e=some z/\n=.t i:=by
 unfold cOp at h
 split at h
 all_goals ((repeat' split at h)<;>simp[Option.map_eq_some_iff,Option.bind_eq_some_iff]at h)
 rename_i t _ _ _ e i j ht ho hc
 obtain⟨zs,h1,rfl,rfl⟩:=h
 obtain⟨rfl,hb⟩:=hc
 cases hti:P.info? e with
 |none=>rw[hti]at hb;simp at hb
 |some ti=>
  rw[hti]at hb
  exact⟨t,e,i,ti,ho,ht,hti,by simpa using hb,h1,rfl⟩
theorem inv_ap{sz:Nat}{a x:BO}(h:cOp P o=some (.ap sz a x)):∃c y z t u e ti zs,o.op=.call c/\c.callee=.builtin .append/\c.args=#[y,z]/\c.argTypes=#[t,u]/\P.underlying t=some (.slice e)/\(∃e',P.underlying u=some (.slice e')) /\
   sizeO P e=some sz/\P.info? e=some ti/\ti.bytes<=2^12/\zeroO P e=some zs/\cO y=some a/\cO z=some x:=by
 unfold cOp at h
 split at h
 all_goals ((repeat' split at h)<;>simp[Option.map_eq_some_iff,Option.bind_eq_some_iff]at h)
 rename_i args ats _ _ _ y z t u hargs hty ho _ _ e e' ht hu hcond
 obtain⟨s',h1,b1,h2,b2,h3,rfl,rfl,rfl⟩:=h
 obtain⟨ti,hti⟩:∃ti,P.info? e=some ti:=by
  cases hh:P.info? e with
  |none=>rw[hh]at hcond;simp at hcond
  |some ti=>exact⟨ti,rfl⟩
 obtain⟨zs,hz⟩:=Option.isSome_iff_exists.1 hcond.2
 have hb:=hcond.1
 rw[hti]at hb
 refine⟨_,y,z,t,u,e,ti,zs,ho,rfl,?_,?_,ht,⟨e',hu⟩,h1,hti,by simpa using hb,hz,h2,h3⟩
 ·rw[<-Array.toArray_toList (xs:=args),hargs]
 ·rw[<-Array.toArray_toList (xs:=ats),hty]
end
end Go.Abs
namespace Go.Abs
open Go
section
variable{P:Program}{E:Env}{G G':Ghost}{w w':World}{fr:Fr}{ρ:Operand->Value}{H H':LHeap}{o:Oper}
theorem look_del{i j:Nat}:∀{l:List (Nat×LObj)},look j (delO i l)=if j=i then none else look j l
 |[]=>by simp[delO,look]
 |(k,x)::r=>by
  simp only[delO]
  by_cases h1:i=k
  ·subst h1
   rw[if_pos rfl,look_del]
   by_cases h2:j=i
   ·simp[h2]
   ·simp[h2,look]
  ·rw[if_neg h1]
   by_cases h2:j=k
   ·subst h2
    simp[look,Ne.symm h1]
   ·simp only[look,if_neg h2]
    rw[look_del]
theorem Inv.del(hI:Inv G w H)(i:Nat):Inv G w (H.del i) where
 n:=hI.n
 hB:=hI.hB
 free:=hI.free
 old:=hI.old
 objs o x hx:=by
  have hx':look o H.objs=some x:=by
   simp only[LHeap.del,look_del]at hx
   split at hx
   ·cases hx
   ·exact hx
  obtain⟨h1,h2⟩:=hI.objs o x hx'
  have hdel:∀m y,look m (H.del i).objs=some y->look m H.objs=some y:=fun m y hy=>by
   simp only[LHeap.del,look_del]at hy
   split at hy
   ·cases hy
   ·exact hy
  refine⟨h1,?_⟩
  cases x with
  |cells=>exact h2
  |arr=>exact h2
  |map=>exact h2
  |um=>exact h2
  |tok=>exact h2
  |bld=>exact h2
  |rcd=>exact h2
  |dfr=>exact h2
  |lft=>exact h2
  |iter m left cur n=>
   obtain⟨a,b,c⟩:=h2
   refine⟨a,b,?_⟩
   split
   ·rename_i he;rw[if_pos he]at c;exact c
   ·rename_i he;rw[if_neg he]at c
    obtain⟨seen,stepped,c1,c2,c3,c4,c5⟩:=c
    exact⟨seen,stepped,c1,c2,c3,fun es hl=>c4 es (hdel _ _ hl),fun es hl=>c5 es (hdel _ _ hl)⟩
theorem Ext.drew(G:Ghost)(w:World):Ext G w G w.drew:=
 ⟨rfl,rfl,rfl,Nat.le_refl _,rfl,fun _ _=>rfl,Nat.le_refl _,fun _ _=>rfl,fun _ _=>rfl,fun _ _ h=>⟨h,fun _ h=>h⟩,
  fun _ _ m b c h=>⟨m,b,c,h,Nat.le_refl _,fun _=>⟨rfl,rfl⟩⟩,rfl⟩
theorem Inv.drew(hI:Inv G w H):Inv G w.drew H where
 n:=hI.n
 hB:=hI.hB
 free:=hI.free
 old:=hI.old
 objs o x hx:=by
  obtain⟨h1,h2⟩:=hI.objs o x hx
  have hd:=Ext.drew G w
  refine⟨h1,?_⟩
  cases x with
  |cells cs=>
   obtain⟨vs,el,fz,a,b,c,d,e,f⟩:=h2
   exact⟨vs,el,fz,a,b,c,d,e,fun i c hc=>⟨(f i c hc).1.mono hd,(f i c hc).2⟩⟩
  |arr sz cs=>
   obtain⟨vs,el,fz,a,b,c,d,e,f,g⟩:=h2
   exact⟨vs,el,fz,a,b,c,d,e,f,fun i c hc=>⟨(g i c hc).1.mono hd,(g i c hc).2⟩⟩
  |map es=>
   obtain⟨ents,clock,a,b,c,d,e,f⟩:=h2
   exact⟨ents,clock,a,b,c,d,fun i kv en h1 h2=>⟨(e i kv en h1 h2).1.mono hd,(e i kv en h1 h2).2.mono hd⟩,f⟩
  |um es=>
   obtain⟨es0,hp,ents,clock,a,b,c,d,e,f⟩:=h2
   exact⟨es0,hp,ents,clock,a,b,c,d,fun i kv en h1 h2=>⟨(e i kv en h1 h2).1.mono hd,(e i kv en h1 h2).2.mono hd⟩,f⟩
  |iter m left cur n=>exact h2
  |tok n sz=>exact h2
  |bld tb te l=>exact h2
  |dfr=>exact h2
  |lft=>exact h2
  |rcd busy fo ps k=>
   obtain⟨fn,tmps,df,a,b,c,d,e⟩:=h2
   exact⟨fn,tmps,df,a,b,c,d,fun i x hi=>(e i x hi).mono hd⟩
theorem aq_grow{H0:LHeap}(hI:Inv G w H0){cs0 ms:List LV}{L M:List Value}{sz newCap k:Nat}{rest:Array Value}{elem:TypeId}(hL:AR G w cs0 L.toArray)(hM:AR G w ms M.toArray)
  (hk:(cs0.length+ms.length)<=newCap*sz) (hkn:k<=newCap) (hsize:L.length+M.length+rest.size=newCap*sz):
  ∃G',VR G' (w.drew.alloc (.cells (L.toArray++M.toArray++rest) elem)) (.asl H0.next 0 k) (.slice (some (at_ w.heap.size 0)) k newCap) /\
   Ext G w G' (w.drew.alloc (.cells (L.toArray++M.toArray++rest) elem))/\Inv G' (w.drew.alloc (.cells (L.toArray++M.toArray++rest) elem)) (H0.alloc (.arr sz (cs0++ms))):=by
 have hA:AR G w (cs0++ms) (L++M).toArray:=hL.append hM
 have hAl:L.length+M.length=cs0.length+ms.length:=by have:=hA.1;simpa using this
 obtain⟨h1,h2⟩:=hI.drew.alloc (.cells (L.toArray++M.toArray++rest) elem) (.arr sz (cs0++ms)) (sz,newCap) (fun hx=>by
  refine⟨_,elem,(0,0),by rw[Ghost.add_loc];exact heap_alloc_new,by rw[Ghost.add_loc];exact hI.hB',?_,⟨by simp[Ghost.add],?_,?_⟩,fun x=>by rw[Ghost.add_loc];exact Ghost.add_own _ _ _ _ _,fun x=>by rw[Ghost.add_loc];exact frozen_new,fun i c hc=>?_⟩
  ·simp;omega
  ·simp[Ghost.add];omega
  ·simp[Ghost.add];omega
  ·have hi:=lt_of_get hc
   rw[List.length_append]at hi
   have h3:=hA.2 i c hc
   have e:(L.toArray++M.toArray++rest).getD i undef=(L++M).toArray.getD i undef:=by
    rw[Array.getD_eq_getD_getElem?,Array.getD_eq_getD_getElem?,Array.getElem?_append_left (by simp;omega)]
    simp
   rw[e]
   exact⟨(h3.1.mono (Ext.drew G w)).mono hx,h3.2⟩)
 refine⟨_,?_,(Ext.drew G w).trans h2,h1⟩
 have h:=VR.asl (G:=G.add H0.next w.drew.heap.size (sz,newCap)) (w:=w.drew.alloc (.cells (L.toArray++M.toArray++rest) elem)) (o:=H0.next) (off:=0) (len:=k) (cap:=newCap) (by simp[Ghost.add]) hkn (by simp[Ghost.add])
 rw[Nat.zero_mul]at h
 simpa [Ghost.add] using h
def Ghost.take(G:Ghost)(o id:Nat):Ghost where
 B:=G.B
 n:=id+1
 loc:=fun i=>if i=id then G.loc o else G.loc i
 asz:=fun i=>if i=id then G.asz o else G.asz i
 tk:=fun t=>if t=id then none else G.tk t
 own:=fun b x=>match G.own b x with
  |.obj j=>if j=o then .obj id else .obj j
  |l=>l
 rc:=G.rc
theorem Ghost.take_own(G:Ghost){o id b x:Nat}:(G.own b x=.obj o->(G.take o id).own b x=.obj id)/\(∀i,i≠o->G.own b x=.obj i->(G.take o id).own b x=.obj i) /\
  (∀t,G.own b x=.tok t->(G.take o id).own b x=.tok t)/\(G.own b x=.cl->(G.take o id).own b x=.cl)/\(G.own b x=.free->(G.take o id).own b x=.free):=by
 refine⟨fun h=>?_,fun i hi h=>?_,fun t h=>?_,fun h=>?_,fun h=>?_⟩<;>simp only[Ghost.take,h]
 ·simp
 ·simp[hi]
theorem aq_fits(hI:Inv G w H){ob:Nat}{cs ms:List LV}{M:List Value}{sz len m cap:Nat}(hl:look ob H.objs=some (.arr sz cs))(hcap:cap<=(G.asz ob).2)(hlen:len*sz<=cs.length)
  (hM:AR G w ms M.toArray) (hMl:M.length=m*sz) (hfit:len+m<=cap):
  (∀j,j<M.length->(w.cell? (at_ (G.loc ob) (len*sz+j))).isSome=true)/\(∀j,j<M.length->w.frozen? (at_ (G.loc ob) (len*sz+j))=false) /\
  ∃G',VR G' (w.setCells (G.loc ob) (len*sz) M) (.asl H.next 0 (len+m)) (.slice (some (at_ (G.loc ob) 0)) (len+m) cap) /\
   Ext G w G' (w.setCells (G.loc ob) (len*sz) M)/\Inv G' (w.setCells (G.loc ob) (len*sz) M) ((H.del ob).alloc (.arr sz (cs.take (len*sz)++ms))):=by
 obtain⟨hob,vs,el,fz,h1,h2,h3,⟨ha1,ha2,ha3⟩,h4,h5,h6⟩:=hI.objs ob _ hl
 have hn:=hI.n
 have hsz:(len+m)*sz<=(G.asz ob).2*sz:=Nat.mul_le_mul_right _ (by omega)
 have hadd:(len+m)*sz=len*sz+m*sz:=Nat.add_mul _ _ _
 have hms:ms.length=M.length:=by have:=hM.1;simpa using this.symm
 refine⟨fun j hj=>?_,fun j _=>h5 _,G.take ob H.next,?_⟩
 ·rw[cell?_cells h1,Array.getElem?_eq_getElem (by omega)];rfl
 obtain⟨q1,q2,q3,q4,q5,cur',q6,q7,q8⟩:=setCells_spec (G.loc ob) M (len*sz) w vs el fz h1
 have hx:Ext G w (G.take ob H.next) (w.setCells (G.loc ob) (len*sz) M):=by
  refine Inv.ext_setCells h1 h2 (fun x e1 e2=>by rw[h4 x];simp) rfl (by simp[Ghost.take];omega) (fun i hi=>?_) (fun i hi=>?_) (fun k x h=>G.take_own.2.2.2.1 h) (fun t ht m b c hm=>?_)
  ·simp only[Ghost.take];rw[if_neg (by omega)]
  ·simp only[Ghost.take];rw[if_neg (by omega)]
  ·exact⟨m,b,c,by simp only[Ghost.take];rw[if_neg (by omega)];exact hm,Nat.le_refl _,fun _=>⟨rfl,rfl⟩⟩
 refine⟨?_,hx,?_⟩
 ·have h:=VR.asl (G:=G.take ob H.next) (w:=w.setCells (G.loc ob) (len*sz) M) (o:=H.next) (off:=0) (len:=len+m) (cap:=cap) (by simp[Ghost.take]) hfit (by simp[Ghost.take];exact hcap)
  rw[Nat.zero_mul]at h
  simpa [Ghost.take] using h
 ·refine Inv.step (fun i=>i=H.next\/i=ob) (hI.del ob) hx (turn_setCells h1) (Nat.le_refl _) (fun k x hk=>?_) (fun k x hk=>?_) (fun i x hi h=>?_) (fun i k x hi hk hc=>?_) (fun _ _ _ h=>h)
   (fun i k x hi=>⟨fun h=>G.take_own.2.1 i (fun e=>hi (.inr e)) h,fun h=>G.take_own.2.2.1 i h⟩) (fun i hin hi=>by simp only[Ghost.take];rw[if_neg (fun e=>hi (.inl e))]) ?_ ?_
  ·rw[q2]at hk
   exact G.take_own.2.2.2.2 (hI.free k x hk)
  ·exact G.take_own.2.2.2.2 (hI.old k x hk)
  ·rw[look_alloc_old (H:=H.del ob) (fun e=>hi (.inl e))]at h
   exact h
  ·obtain⟨rfl,e1,e2⟩:=hc
   rw[h4 x]at hk
   cases hk
   exact hi (.inr rfl)
  ·intro mm es' hmn hm
   rw[look_alloc_old (H:=H.del ob) (show mm≠H.next by omega)]at hm
   refine⟨es',hm,Nat.le_refl _,fun _ ents' clock' hh=>⟨ents',clock',?_,rfl,fun _=>rfl⟩⟩
   by_cases hb:G.loc mm=G.loc ob
   ·rw[hb,q6]at hh;cases hh
   ·rw[q1 _ hb]at hh;exact hh
  ·intro i x hi h
   rcases hi with rfl|rfl
   ·have hnew:look H.next ((H.del ob).alloc (.arr sz (cs.take (len*sz)++ms))).objs=some (.arr sz (cs.take (len*sz)++ms)):=look_alloc_new (H:=H.del ob)
    rw[hnew]at h
    simp only[Option.some.injEq]at h;subst h
    refine⟨by simp[Ghost.take],cur',el,fz,by simp[Ghost.take];exact q6,by simp[Ghost.take];exact(by simpa using h2),?_,⟨by simp[Ghost.take];exact ha1,by simp[Ghost.take];rw[q7];exact ha2,?_⟩,fun x=>?_,fun x=>by simp[Ghost.take];exact(turn_setCells h1).frozen h1 (h5 x),fun i c hc=>?_⟩
    ·simp;omega
    ·simp[Ghost.take];omega
    ·simp only[Ghost.take,if_true]
     rw[h4 x];simp
    ·by_cases hi:i<len*sz
     ·rw[List.getElem?_append_left (by simp;omega),List.getElem?_take,if_pos hi]at hc
      have:=h6 i c hc
      have e:cur'.getD i undef=vs.getD i undef:=by
       rw[Array.getD_eq_getD_getElem?,Array.getD_eq_getD_getElem?,q8,if_neg (by omega)]
      rw[e]
      exact⟨this.1.mono hx,this.2⟩
     ·rw[List.getElem?_append_right (by simp;omega)]at hc
      have hlt:=lt_of_get hc
      have hmin:min (len*sz) cs.length=len*sz:=Nat.min_eq_left hlen
      simp only[List.length_take,hmin]at hc hlt
      have:=hM.2 _ c hc
      have e:cur'.getD i undef=M.toArray.getD (i - len*sz) undef:=by
       rw[Array.getD_eq_getD_getElem?,Array.getD_eq_getD_getElem?,q8,if_pos ⟨by omega,by omega,by omega⟩]
       simp
      rw[e]
      exact⟨this.1.mono hx,this.2⟩
   ·rw[look_alloc_old (H:=H.del i) (show i≠(H.del i).next by show i≠H.next;omega)]at h
    simp[LHeap.del,look_del]at h
theorem sl_far{l:List LV}{ow:Own}{val:Value}{K:List Value}{sz:Nat}(hV:VR G w (.sl l ow) val)(hall:(l.all fun e=>e.cells.length==sz)=true)
  (hr:(Builtin.firstCells sz l.length val).run P w=.ok K.toArray w) {w':World} (hw:∀k,k<w.heap.size->w'.heap[k]? = w.heap[k]?):
  (Builtin.firstCells sz l.length val).run P w'=.ok K.toArray w':=by
 obtain⟨bb,cc,rfl,_,_,hbb⟩:=hV.sl_inv
 rcases hbb with⟨rfl,rfl,_⟩|⟨b3,off3,sz3,xs3,rfl,r1,r2,r3⟩
 ·have e0:=firstCells0 (P:=P) (w:=w) bb sz
  rw[show ([]:List LV).length=0 from rfl,e0]at hr
  rw[show ([]:List LV).length=0 from rfl,firstCells0]
  simp only[Result.ok.injEq]at hr ⊢
  exact⟨hr.1,trivial⟩
 ·obtain⟨K',hK,hKl,hKc⟩:=sl_row2 hV hall
  have run:∀w2:World,(∀k,k<l.length*sz->w2.cell? (at_ b3 (off3+k))=K'[k]?)->(Builtin.firstCells sz l.length (.slice (some (at_ b3 off3)) l.length cc)).run P w2=.ok K'.toArray w2:=by
   intro w2 hw2
   refine run_firstCells_some _ _ _ _ _ _ _ hKl (fun j v hj=>?_)
   rw[at_add,hw2 j (by have:=lt_of_get hj;omega)];exact hj
  have e0:=run w (fun k hk=>(hKc k hk).2)
  rw[hr]at e0
  simp only[Result.ok.injEq,and_true]at e0
  rw[e0]
  refine run w' (fun k hk=>?_)
  have hb3:b3<w.heap.size:=by
   have:=(hKc k hk).2
   rw[List.getElem?_eq_getElem (by omega)]at this
   rcases Nat.lt_or_ge b3 w.heap.size with h|h
   ·exact h
   ·simp[World.cell?,Array.getElem?_eq_none h]at this
  rw[cell?_of_block (hw b3 hb3)]
  exact(hKc k hk).2
theorem row_spec(hI:Inv G w H){x:LV}{v:Value}{ms:List LV}{m sz:Nat}(hX:VR G w x v)(h:rowL H sz x=some (ms,m)):
  ∃M:List Value,AR G w ms M.toArray/\M.length=m*sz/\ms.length=m*sz/\(∃b c,v=.slice b m c) /\
   ∀w':World,(∀k,k<w.heap.size->w'.heap[k]? = w.heap[k]?)->(Builtin.firstCells sz m v).run P w'=.ok M.toArray w':=by
 unfold rowL at h
 split at h
 ·rename_i xs ow
  split at h
  ·rename_i hxs
   simp only[Option.some.injEq,Prod.mk.injEq]at h
   obtain⟨rfl,rfl⟩:=h
   obtain⟨M,hM,hMl,hMr⟩:=sl_row (P:=P) hX hxs
   obtain⟨b,c,hv,_⟩:=hX.sl_inv
   exact⟨M,hM,hMl,flatC_length (all_cells hxs),⟨b,c,hv⟩,fun w' hw=>sl_far hX hxs hMr hw⟩
  ·cases h
 ·rename_i ob off len
  split at h
  ·rename_i s' cs' hl
   split at h
   ·rename_i hc
    obtain⟨rfl,hlen⟩:=hc
    simp only[Option.some.injEq,Prod.mk.injEq]at h
    obtain⟨rfl,rfl⟩:=h
    obtain⟨hob,cap,hcap,hcz,hv⟩:=hX.asl_inv
    obtain⟨_,vs,el,fz,h1,h2,h3,⟨ha1,ha2,ha3⟩,h4,h5,h6⟩:=hI.objs ob _ hl
    have hadd:(off+len)*s'=off*s'+len*s':=Nat.add_mul _ _ _
    have hvl:off*s'+len*s'<=vs.size:=by omega
    rw[ha1]at hv
    refine⟨(vs.toList.drop (off*s')).take (len*s'),⟨by simp;omega,fun i c hc=>?_⟩,by simp;omega,by simp;omega,⟨_,_,hv⟩,fun w' hw=>?_⟩
    ·have hi:=lt_of_get hc
     simp at hi
     rw[List.getElem?_take,if_pos (by omega),List.getElem?_drop]at hc
     have:=h6 _ c hc
     have e:((vs.toList.drop (off*s')).take (len*s')).toArray.getD i undef=vs.getD (off*s'+i) undef:=by
      rw[Array.getD_eq_getD_getElem?,Array.getD_eq_getD_getElem?]
      simp[List.getElem?_take,List.getElem?_drop,show i<len*s' by omega]
     rw[e];exact this
    ·rw[hv]
     refine run_firstCells_some _ _ _ _ _ _ _ (by simp;omega) (fun j v hj=>?_)
     have hb:G.loc ob<w.heap.size:=lt_of_heap h1
     rw[at_add,cell?_of_block (hw _ hb),cell?_cells h1]
     rw[List.getElem?_take]at hj
     split at hj
     ·rw[List.getElem?_drop]at hj
      simpa using hj
     ·cases hj
   ·cases h
  ·cases h
 ·cases h
theorem eff_aq(hI:Inv G w H)(hρ:EvR E G w fr ρ){c:Call}{s x:Operand}{bs bx:BO}{t u e:TypeId}{sz:Nat}{ti:TypeInfo}{zs:List LV}(ho:o.op=.call c)
  (hcal:c.callee=.builtin .append) (hargs:c.args=#[s,x]) (hty:c.argTypes=#[t,u])
  (ht:P.underlying t=some (.slice e)) (hu:∃e',P.underlying u=some (.slice e')) (hsz:sizeO P e=some sz) (hti:P.info? e=some ti) (hby:ti.bytes<=2^12) (hz:zeroO P e=some zs)
  (hs:cO s=some bs) (hx:cO x=some bx) {v:LV} (h:effB2 E fr H (.ap sz bs bx)=some (v,H')):EffOk P G w ρ o v H':=by
 have hS:=hρ _ _ hs
 have hX:=hρ _ _ hx
 obtain⟨zv,hzv,hzs,hzsz⟩:=zero_run hz
 have hzl:zs.length=sz:=by rw[hsz]at hzsz;simpa using hzsz.symm
 have yields:∀v w',(Builtin.append_ #[t,u] o.type #[ρ s,ρ x]).run P w=.ok v w'->Yields P ρ o w v w':=by
  intro v w' h
  left
  simp[execOp,ho,resolve,hcal,hargs,hty,invoke,builtin,h]
 simp only[effB2]at h
 split at h
 ·rename_i cs H0 n ms m hsrc hxe
  obtain⟨M,hM,hMl,hml,⟨base2,cap2,hv2⟩,hMf⟩:=row_spec (P:=P) hI hX hxe
  have hMr:=hMf w fun _ _=>rfl
  split at h
  ·rename_i hm0
   subst hm0
   simp only[Option.some.injEq,Prod.mk.injEq]at h
   obtain⟨rfl,rfl⟩:=h
   have hM0:M=[]:=by simpa using hMl
   subst hM0
   have run0:∀(base:Option Addr)(cap:Nat),ρ s=.slice base n cap->n<=cap->(base=none\/∃b off,base=some (at_ b off))->(Builtin.append_ #[t,u] o.type #[ρ s,ρ x]).run P w=.ok (ρ s) w:=by
    intro base cap hv hle hb
    rw[hv]
    rcases hb with rfl|⟨b,off,rfl⟩
    ·exact run_append_none (n:=0) ht hu hsz ⟨_,_,hv2⟩ hle hMr
    ·exact run_append_fits (n:=0) ht hu hsz ⟨_,_,hv2⟩ hle hMr rfl
   refine⟨_,w,G,yields _ _ ?_,hS,Ext.refl _ _,hI⟩
   unfold srcL at hsrc
   split at hsrc
   ·rename_i es hse
    rw[hse]at hS
    split at hsrc
    ·simp only[Option.some.injEq,Prod.mk.injEq]at hsrc
     obtain⟨rfl,rfl,rfl⟩:=hsrc
     obtain⟨base,cap,hv,hcap,hown,hb⟩:=hS.sl_inv
     refine run0 base cap hv (by omega) ?_
     rcases hb with⟨_,_,rfl|h⟩|⟨b,off,_,_,rfl,_⟩
     ·exact .inl rfl
     ·cases h
     ·exact .inr ⟨b,off,rfl⟩
    ·cases hsrc
   ·rename_i ob len hse
    rw[hse]at hS
    split at hsrc
    ·split at hsrc
     ·simp only[Option.some.injEq,Prod.mk.injEq]at hsrc
      obtain⟨rfl,rfl,rfl⟩:=hsrc
      obtain⟨hob,cap,hcap,hcz,hv⟩:=hS.asl_inv
      exact run0 _ cap hv hcap (.inr ⟨_,_,rfl⟩)
     ·cases hsrc
    ·cases hsrc
   ·cases hsrc
  rename_i hm0
  split at h
  ·rename_i hc
   obtain⟨hbig,_⟩:=hc
   simp only[Option.some.injEq,Prod.mk.injEq]at h
   obtain⟨rfl,rfl⟩:=h
   have hpos:0<m:=by omega
   have grow:∀(base:Option Addr)(cap:Nat)(L:List Value),ρ s=.slice base n cap->Inv G w H0->AR G w cs L.toArray->L.length=n*sz->cs.length=n*sz->cap<n+m ->
     (∀w',(∀k,k<w.heap.size->w'.heap[k]? = w.heap[k]?)->(Builtin.firstCells sz n (.slice base n cap)).run P w'=.ok L.toArray w') ->
     EffOk P G w ρ o (.asl H0.next 0 (n+m)) (H0.alloc (.arr sz (cs++ms))):=by
    intro base cap L hv hI0 hL hLl hcl hlt hLr
    obtain⟨newCap,rest,r1,r2,r3⟩:=run_append_grow (P:=P) (w:=w) (ty:=o.type) (t:=t) (u:=u) (base:=base) (sLen:=n) (sCap:=cap) (n:=m) (x:=ρ x) (L:=L) (M:=M) ht hu hsz hti hby hzv ⟨_,_,hv2⟩ hbig hlt
     hLr hMf
    rw[hzs,hzl]at r2
    have hadd:(n+m)*sz=n*sz+m*sz:=Nat.add_mul _ _ _
    have hle:(n+m)*sz<=newCap*sz:=Nat.mul_le_mul_right _ r1
    have hfl:=hml
    obtain⟨G',k1,k2,k3⟩:=aq_grow (elem:=e) (sz:=sz) (newCap:=newCap) (k:=n+m) (rest:=rest) hI0 hL hM (by omega) r1 (by rw[r2,Nat.sub_mul];omega)
    exact⟨_,_,G',yields _ _ (by rw[hv];exact r3),k1,k2,k3⟩
   unfold srcL at hsrc
   split at hsrc
   ·rename_i es hse
    rw[hse]at hS
    split at hsrc
    ·rename_i hes
     simp only[Option.some.injEq,Prod.mk.injEq]at hsrc
     obtain⟨rfl,rfl,rfl⟩:=hsrc
     obtain⟨base,cap,hv,hcap,hown,hb⟩:=hS.sl_inv
     obtain⟨L,hL,hLl,hLr⟩:=sl_row (P:=P) hS hes
     have hce:cap=es.length:=hown
     exact grow base cap L hv hI hL hLl (flatC_length (all_cells hes)) (by omega) (fun w' hw=>by have:=sl_far hS hes hLr hw;rwa [hv]at this)
    ·cases hsrc
   ·rename_i ob len hse
    rw[hse]at hS
    split at hsrc
    ·rename_i s' cs' hl
     split at hsrc
     ·rename_i hc
      obtain⟨rfl,hlen⟩:=hc
      simp only[Option.some.injEq,Prod.mk.injEq]at hsrc
      obtain⟨rfl,rfl,rfl⟩:=hsrc
      obtain⟨hob,cap,hcap,hcz,hv⟩:=hS.asl_inv
      rw[Nat.zero_mul]at hv
      rw[Nat.zero_add]at hcz
      obtain⟨_,vs,el,fz,h1,h2,h3,⟨ha1,ha2,ha3⟩,h4,h5,h6⟩:=hI.objs ob _ hl
      by_cases hfit:len+m<=cap
      ·obtain⟨r1,r2,G',r3,r4,r5⟩:=aq_fits (m:=m) (ms:=ms) hI hl hcz hlen hM hMl hfit
       have hst:=run_storeCells_cells (P:=P) (G.loc ob) (len*s') M 0 w (by simpa using r1) (by simpa using r2) (fun v hv=>by
        obtain⟨k,hk,he⟩:=List.getElem_of_mem hv
        have hk2:k<ms.length:=by omega
        have:=(hM.2 k _ (List.getElem?_eq_getElem hk2)).2
        simpa [<-he,hk] using this)
       refine⟨_,_,G',yields _ _ ?_,r3,r4,r5⟩
       rw[hv]
       exact run_append_fits ht hu hsz ⟨_,_,hv2⟩ hfit hMr (by rw[Nat.zero_add];exact hst)
      ·have hlv:len*s'<=vs.size:=by omega
       refine grow _ cap (vs.toList.take (len*s')) hv (hI.del ob) ⟨by simp;omega,fun i c hc=>?_⟩ (by simp;omega) (by simp;omega) (by omega) (fun w' hw=>?_)
       ·have hi:=lt_of_get hc
        simp at hi
        rw[List.getElem?_take,if_pos (by omega)]at hc
        have:=h6 i c hc
        have e:(vs.toList.take (len*s')).toArray.getD i undef=vs.getD i undef:=by
         rw[Array.getD_eq_getD_getElem?,Array.getD_eq_getD_getElem?]
         simp[List.getElem?_take,show i<len*s' by omega]
        rw[e];exact this
       ·refine run_firstCells_some _ _ _ _ _ _ _ (by simp;omega) (fun j v hj=>?_)
        have hb:G.loc ob<w.heap.size:=lt_of_heap h1
        rw[at_add,cell?_of_block (hw _ hb),cell?_cells h1,Nat.zero_add]
        rw[List.getElem?_take]at hj
        split at hj
        ·simpa using hj
        ·cases hj
     ·cases hsrc
    ·cases hsrc
   ·cases hsrc
  ·cases h
 ·cases h
theorem val_cb(hI:Inv G w H)(hρ:EvR E G w fr ρ){s d e:TypeId}{x:Operand}{bx:BO}(ho:o.op=.convert s d x)(hs:P.underlying s=some (.slice e))(he:P.underlying e=some (.int .u8))(hd:P.underlying d=some .string)
  (hx:cO x=some bx) {n:Int} {own:Own} (hn:E.ev fr bx=.sl [.sc (.int .u8 n)] own):ValOk P G w H ρ o (.str ⟨#[UInt8.ofNat n.toNat]⟩):=by
 have h0:=hρ _ _ hx
 rw[hn]at h0
 obtain⟨M,hM,hMl,hMr⟩:=sl_row (P:=P) (sz:=1) h0 rfl
 obtain⟨base,cap,hv,hcap,_,hb⟩:=h0.sl_inv
 have hM1:M=[.int .u8 n]:=by
  match M,hMl with
  |[v],_=>
   have:=(hM.2 0 (.sc (.int .u8 n)) rfl).1
   rw[this.sc_inv.symm]
   simp
 subst hM1
 refine .here hI (v:=.string ⟨#[UInt8.ofNat n.toNat]⟩) ?_ (.sc _)
 rcases hb with⟨h,_⟩|⟨b,off,sz',xs,rfl,_⟩
 ·cases h
 rw[hv]at hMr
 have hl:(loadCells (at_ b off) 1).run P w=.ok #[.int .u8 n] w:=hMr
 simp[execOp,ho,convert,Sem.run_bind,run_underlying hs,run_underlying hd,run_underlying he,hv,Conv.bytesToString,hl]
 rfl
theorem flatten_rep{zs:List LV}:∀(n i:Nat),i<n*zs.length->(List.replicate n zs).flatten[i]? = zs[i % zs.length]?
 |0,i,h=>by simp at h
 |n+1,i,h=>by
  rw[List.replicate_succ,List.flatten_cons]
  by_cases hi:i<zs.length
  ·rw[List.getElem?_append_left hi,Nat.mod_eq_of_lt hi]
  ·rw[List.getElem?_append_right (by omega),flatten_rep n (i - zs.length) (by rw[Nat.add_mul]at h;omega)]
   rw[<-Nat.mod_eq_sub_mod (by omega)]
theorem eff_ms(hI:Inv G w H)(hρ:EvR E G w fr ρ){t e:TypeId}{i:Nat}{ti:TypeInfo}{zs:List LV}(ho:o.op=.makeSlice t (.tmp i) (.tmp i))(ht:P.underlying t=some (.slice e))
  (hti:P.info? e=some ti) (hby:ti.bytes<=2^12) (hz:zeroO P e=some zs) {n:Nat} (hn:natOf (fr i)=some n) (hbig:n<=2^30):
  EffOk P G w ρ o (.asl H.next 0 n) (H.alloc (.arr zs.length (List.replicate n zs).flatten)):=by
 obtain⟨zv,hzv,hA,hsz,_⟩:=zero_AR (P:=P) (G:=G) (w:=w) hz
 have hX:=hρ (.tmp i) (.t i) rfl
 obtain⟨k,hk⟩:=natOf_inv hn hX
 have hzl:zv.cells.size=zs.length:=hA.1
 obtain⟨A,hAd⟩:∃A:Array Value,(Array.range (n*zs.length)).map (fun j=>(if n*zs.length=0 then #[] else zv.cells)[j % (if n*zs.length=0 then #[] else zv.cells).size]!)=A:=⟨_,rfl⟩
 have hAs:A.size=n*zs.length:=by rw[<-hAd];simp
 obtain⟨h1,h2⟩:=hI.alloc (.cells A e) (.arr zs.length (List.replicate n zs).flatten) (zs.length,n) (fun hx=>by
  refine⟨A,e,(0,0),by rw[Ghost.add_loc];exact heap_alloc_new,by rw[Ghost.add_loc];exact hI.hB',by simp[hAs],⟨by simp[Ghost.add],?_,?_⟩,fun x=>by rw[Ghost.add_loc];exact Ghost.add_own _ _ _ _ _,fun x=>by rw[Ghost.add_loc];exact frozen_new,fun j c hc=>?_⟩
  ·simp[Ghost.add,hAs]
  ·simp[Ghost.add,hAs]
  ·have hj:=lt_of_get hc
   simp at hj
   rw[flatten_rep n j hj]at hc
   have h3:=hA.2 _ c hc
   have hne:n*zs.length≠0:=by omega
   have e1:A.getD j undef=zv.cells.getD (j % zs.length) undef:=by
    rw[<-hAd]
    simp only[if_neg hne,hzl]
    rw[Array.getD_eq_getD_getElem?,Array.getD_eq_getD_getElem?]
    have hlt:j % zs.length<zv.cells.size:=by rw[hzl];exact Nat.mod_lt _ (by have:=lt_of_get hc;omega)
    simp[hj,hlt]
   rw[e1]
   exact⟨h3.1.mono hx,h3.2⟩)
 have hr:(Instr.makeSlice t (ρ (.tmp i)) (ρ (.tmp i))).run P w=.ok (.slice (some (at_ w.heap.size 0)) n n) (w.alloc (.cells A e)):=by
  have hw:IntKind.i64.wrap (n:Int)=n:=by
   have e1:IntKind.i64.bits=64:=rfl
   have e2:IntKind.i64.signed=true:=rfl
   simp only[IntKind.wrap,e1,e2]
   rw[if_neg (by simp;omega)]
   omega
  have hb:(ti.bytes:Int)*(n:Int)<=2^12*2^30:=by
   have:ti.bytes*n<=2^12*2^30:=Nat.mul_le_mul hby hbig
   have h2:=Int.ofNat_le.2 this
   simpa using h2
  have hbn:¬((n:Int)<0):=by omega
  have hbb:¬((ti.bytes:Int)*(n:Int) > 2^48):=by omega
  simp only[Instr.makeSlice,Sem.run_bind,run_underlying ht,hk,asInt,run_asIntOf,Result.andThen_ok,Sem.run_pure,run_info hti,hw]
  rw[if_neg (by simp;omega)]
  have hno:(askRoom ((n:Int).toNat*ti.bytes)).run P w=.ok () w:=run_askRoom _ _ _
  have hsw:(sizeOf e).run P w=.ok zs.length w:=run_size hsz w
  rw[Int.toNat_natCast]at hno
  simp only[Int.toNat_natCast,Sem.run_bind,hno,hsw,Result.andThen_ok]
  by_cases h0:n*zs.length=0
  ·rw[if_pos h0]
   rw[if_pos h0]at hAd
   simp only[Sem.run_bind,Sem.run_pure,Result.andThen_ok,newRow,run_newObj_alloc,hAd]
  ·rw[if_neg h0]
   rw[if_neg h0]at hAd
   simp only[Sem.run_bind,hzv,Sem.run_pure,Result.andThen_ok,newRow,run_newObj_alloc,hAd]
 refine⟨.slice (some (at_ w.heap.size 0)) n n,_,_,.inl ?_,?_,h2,h1⟩
 ·simp[execOp,ho,hr]
 ·have h:=VR.asl (G:=G.add H.next w.heap.size (zs.length,n)) (w:=w.alloc (.cells A e)) (o:=H.next) (off:=0) (len:=n) (cap:=n) (by simp[Ghost.add]) (Nat.le_refl _) (by simp[Ghost.add])
  rw[Nat.zero_mul]at h
  simpa [Ghost.add] using h
end
end Go.Abs
namespace Go.Abs
open Go
section
variable{P:Program}{E:Env}{G G':Ghost}{w w':World}{fr:Fr}{ρ:Operand->Value}{H H':LHeap}{o:Oper}
theorem mapM_parts{α:Type}{f:Nat×Operand->Option α}{l:List (Nat×Operand)}{bl:List α}(h:l.mapM f=some bl):
  bl.length=l.length/\∀(i:Nat)(p:Nat×Operand)(b:α),l[i]? = some p->bl[i]? = some b->f p=some b:=by
 induction l generalizing bl with
 |nil=>simp at h;subst h;exact⟨rfl,fun i p b hp=>by simp at hp⟩
 |cons x l ih=>
  simp only[List.mapM_cons,Option.bind_eq_bind,Option.bind_eq_some_iff,Option.pure_def,Option.some.injEq]at h
  obtain⟨b,hb,bl',hl,rfl⟩:=h
  obtain⟨h1,h2⟩:=ih hl
  refine⟨by simp[h1],fun i p c hp hc=>?_⟩
  cases i with
  |zero=>simp at hp hc;subst hp;subst hc;exact hb
  |succ i=>exact h2 i p c (by simpa using hp) (by simpa using hc)
theorem run_places{fs:Array Field}(h:fs.toList.all (fun f=>(sizeO P f.type).isSome)=true):
  (fs.mapM fun f=>(do pure (f.offset,<-sizeOf f.type):Sem (Nat×Nat))).run P w=.ok (fs.toList.map fun f=>(f.offset,(sizeO P f.type).getD 0)).toArray w:=by
 rw[Array.mapM_eq_mapM_toList]
 generalize fs.toList=l at h
 have key:(l.mapM fun f=>(do pure (f.offset,<-sizeOf f.type):Sem (Nat×Nat))).run P w=.ok (l.map fun f=>(f.offset,(sizeO P f.type).getD 0)) w:=by
  induction l with
  |nil=>rfl
  |cons f l ih=>
   simp only[List.all_cons,Bool.and_eq_true]at h
   obtain⟨n,hn⟩:=Option.isSome_iff_exists.1 h.1
   simp only[List.mapM_cons,Sem.run_bind,run_size hn,Result.andThen_ok,Sem.run_pure,ih h.2]
   simp[hn]
 show (Sem.bind _ _).run P w=_
 rw[Sem.run_bind',key]
 rfl
theorem valB_sound(hI:Inv G w H)(hρ:EvR E G w fr ρ)(hρc:∀v,ρ (.const v)=v){bop:BOp}{x:LV}(hc:cOp P o=some bop)(hv:valB E fr H bop=some x):ValOk P G w H ρ o x:=by
 unfold cOp at hc
 split at hc
 ·
  rename_i y ho
  obtain⟨b,hb,rfl⟩:=Option.map_eq_some_iff.1 hc
  simp only[valB,Option.some.injEq]at hv;subst hv
  exact val_mv hI hρ (.inl ho) hb
 ·rename_i y ho
  obtain⟨b,hb,rfl⟩:=Option.map_eq_some_iff.1 hc
  simp only[valB,Option.some.injEq]at hv;subst hv
  exact val_mv hI hρ (.inr ho) hb
 ·
  rename_i c a b ho
  simp only[Option.bind_eq_bind,Option.bind_eq_some_iff,Option.some.injEq]at hc
  obtain⟨bc,h1,ba,h2,bb,h3,rfl⟩:=hc
  simp only[valB]at hv
  split at hv
  ·rename_i t ht
   simp only[Option.some.injEq]at hv;subst hv
   exact val_pk hI hρ ho h1 h2 h3 ht
  ·cases hv
 ·
  rename_i op t a b t' ho
  split at hc
  ·split at hc
   ·rename_i hfit
    simp only[Option.bind_eq_bind,Option.bind_eq_some_iff,Option.some.injEq]at hc
    obtain⟨k,h1,ba,h2,bb,h3,rfl⟩:=hc
    simp only[valB]at hv
    obtain⟨r,hr,rfl⟩:=Option.map_eq_some_iff.1 hv
    exact val_eq (neg:=false) hI hρ ho h2 h3 hfit h1 hr hρc
   ·cases hc
  ·split at hc
   ·rename_i hfit
    simp only[Option.bind_eq_bind,Option.bind_eq_some_iff,Option.some.injEq]at hc
    obtain⟨k,h1,ba,h2,bb,h3,rfl⟩:=hc
    simp only[valB]at hv
    obtain⟨r,hr,rfl⟩:=Option.map_eq_some_iff.1 hv
    exact val_eq (neg:=true) hI hρ ho h2 h3 hfit h1 hr hρc
   ·cases hc
  all_goals first
   |cases hc;done
   |(simp only[Option.bind_eq_bind,Option.bind_eq_some_iff,Option.some.injEq]at hc
     obtain⟨ba,h2,bb,h3,rfl⟩:=hc
     simp only[valB]at hv
     exact val_bn hI hρ ho h2 h3 (by simp) (by simp) hv)
 ·
  rename_i t a ho
  obtain⟨b,hb,rfl⟩:=Option.map_eq_some_iff.1 hc
  simp only[valB]at hv
  split at hv
  ·rename_i r hr
   simp only[Option.some.injEq]at hv;subst hv
   exact val_nt hI hρ ho hb hr
  ·cases hv
 ·
  rename_i t a ho
  simp only[Option.bind_eq_bind,Option.bind_eq_some_iff,Option.some.injEq]at hc
  obtain⟨n,h1,b,h2,rfl⟩:=hc
  exact val_ld hI hρ ho h1 h2 hv
 ·
  rename_i t a f ho
  split at hc
  ·rename_i fs hu
   split at hc
   ·rename_i fd hfd
    split at hc
    ·rename_i n hs
     obtain⟨b,hb,rfl⟩:=Option.map_eq_some_iff.1 hc
     obtain⟨k1,k2⟩:=val_fa (H:=H) (P:=P) hI hρ ho hu hfd hs hb
     simp only[valB]at hv
     split at hv
     ·rename_i q k hq
      simp only[Option.some.injEq]at hv;subst hv
      exact k1 _ _ hq
     ·rename_i cs k hq
      simp only[Option.some.injEq]at hv;subst hv
      exact k2 _ _ hq
     ·cases hv
    ·cases hc
   ·cases hc
  ·cases hc
 ·
  rename_i t a f ho
  split at hc
  ·rename_i fs hu
   split at hc
   ·rename_i fd hfd
    simp only[Option.bind_eq_bind,Option.bind_eq_some_iff,Option.some.injEq]at hc
    obtain⟨n,h1,b,h2,rfl⟩:=hc
    simp only[valB]at hv
    split at hv
    ·rename_i cs hcs
     exact val_fd hI hρ ho hu hfd h1 h2 hcs hv
    ·cases hv
   ·cases hc
  ·cases hc
 ·
  rename_i t a i ho
  split at hc
  ·rename_i e hu
   simp only[Option.bind_eq_bind,Option.bind_eq_some_iff,Option.some.injEq]at hc
   obtain⟨s,h1,b,h2,bi,h3,rfl⟩:=hc
   simp only[valB]at hv
   split at hv
   ·rename_i es own n hes hn
    obtain⟨k1,_⟩:=val_ia (H:=H) (P:=P) hI hρ ho hu h1 h2 h3 hn
    split at hv
    ·rename_i el hel
     split at hv
     ·rename_i hsz
      simp only[Option.some.injEq]at hv;subst hv
      exact k1 _ _ _ hes hel hsz
     ·cases hv
    ·cases hv
   ·rename_i q off len n hes hn
    obtain⟨_,k2⟩:=val_ia (H:=H) (P:=P) hI hρ ho hu h1 h2 h3 hn
    split at hv
    ·rename_i sz cs hl
     split at hv
     ·rename_i hsz
      simp only[Option.some.injEq]at hv;subst hv
      exact k2 _ _ _ _ _ hes hsz.1 hl hsz.2
     ·cases hv
    ·cases hv
   ·cases hv
  ·rename_i n e hu
   simp only[Option.bind_eq_bind,Option.bind_eq_some_iff,Option.some.injEq]at hc
   obtain⟨s,h1,b,h2,bi,h3,rfl⟩:=hc
   simp only[valB]at hv
   split at hv
   ·rename_i q k m hq hn
    split at hv
    ·rename_i hlt
     simp only[Option.some.injEq]at hv;subst hv
     exact(val_ip hI hρ ho hu h1 h2 h3 hn hlt).1 _ _ hq
    ·cases hv
   ·rename_i cs k m hq hn
    split at hv
    ·rename_i hlt
     simp only[Option.some.injEq]at hv;subst hv
     exact(val_ip hI hρ ho hu h1 h2 h3 hn hlt).2 _ _ hq
    ·cases hv
   ·cases hv
  ·cases hc
 ·
  rename_i t a i ho
  split at hc
  ·rename_i hu
   simp only[Option.bind_eq_bind,Option.bind_eq_some_iff,Option.some.injEq]at hc
   obtain⟨b,h2,bi,h3,rfl⟩:=hc
   simp only[valB]at hv
   split at hv
   ·rename_i s n hs hn _
    obtain⟨c,hcb,rfl⟩:=Option.map_eq_some_iff.1 hv
    exact val_ix_str hI hρ ho hu h2 h3 hn hs hcb
   ·simp_all
   ·cases hv
  ·rename_i n e hu
   split at hc
   ·rename_i hn0
    simp only[Option.bind_eq_bind,Option.bind_eq_some_iff,Option.some.injEq]at hc
    obtain⟨b,h2,bi,h3,rfl⟩:=hc
    simp only[valB]at hv
    split at hv
    ·simp_all
    ·rename_i cs m m' hs hn hm
     split at hv
     ·rename_i hlt
      simp only[Option.some.injEq]at hm;subst hm
      exact val_ix_arr hI hρ ho hu hn0 h2 h3 hn hlt hs hv
     ·cases hv
    ·cases hv
   ·cases hc
  ·cases hc
 ·
  rename_i t a l h ho
  split at hc
  ·rename_i hu
   simp only[Option.bind_eq_bind,Option.bind_eq_some_iff,Option.some.injEq]at hc
   obtain⟨b,h2,bl,h3,bh,h4,rfl⟩:=hc
   simp only[valB]at hv
   split at hv
   ·rename_i n hn
    split at hv
    ·rename_i p q hp hq
     unfold sliceL at hv
     split at hv
     ·rename_i s _ hs
      split at hv
      ·rename_i hle
       simp only[Option.some.injEq]at hv;subst hv
       rw[hs]at hn
       simp only[lenL,Option.some.injEq]at hn;subst hn
       exact val_sr_str hI hρ ho hu h2 h3 h4 hs hp hq hle.1 hle.2
      ·cases hv
     ·simp_all
     ·simp_all
     ·simp_all
     ·cases hv
    ·cases hv
   ·cases hv
  ·rename_i e hu
   simp only[Option.bind_eq_bind,Option.bind_eq_some_iff,Option.some.injEq]at hc
   obtain⟨s,h1,b,h2,bl,h3,bh,h4,rfl⟩:=hc
   simp only[valB]at hv
   split at hv
   ·rename_i n hn
    split at hv
    ·rename_i p q hp hq
     unfold sliceL at hv
     split at hv
     ·simp_all
     ·rename_i es own _ hs
      split at hv
      ·rename_i hle
       simp only[Option.some.injEq]at hv;subst hv
       rw[hs]at hn
       simp only[lenL,Option.some.injEq]at hn;subst hn
       exact val_sr_sl hI hρ ho hu h1 h2 h3 h4 hs hp hq hle.1 hle.2.1 hle.2.2
      ·cases hv
     ·rename_i q' off len _ hs
      split at hv
      ·rename_i hle
       simp only[Option.some.injEq]at hv;subst hv
       rw[hs]at hn
       simp only[lenL,Option.some.injEq]at hn;subst hn
       obtain⟨rfl,hle⟩:=hle
       exact val_sr_asl hI hρ ho hu h1 h2 h3 h4 hs hp hq hle
      ·cases hv
     ·simp_all
     ·cases hv
    ·cases hv
   ·cases hv
  ·cases hc
 ·
  rename_i s d a ho
  split at hc
  ·rename_i k' k h1 h2
   obtain⟨b,hb,rfl⟩:=Option.map_eq_some_iff.1 hc
   simp only[valB]at hv
   split at hv
   ·rename_i j n hn
    simp only[Option.some.injEq]at hv;subst hv
    exact val_cv hI hρ ho h1 h2 hb hn
   ·cases hv
  ·rename_i h1 h2
   obtain⟨b,hb,rfl⟩:=Option.map_eq_some_iff.1 hc
   simp only[valB]at hv
   split at hv
   ·rename_i s hs
    simp only[Option.some.injEq]at hv;subst hv
    exact val_cvs hI hρ ho h1 h2 hb hs
   ·cases hv
  ·rename_i e h1 h2
   split at hc
   ·rename_i he
    obtain⟨b,hb,rfl⟩:=Option.map_eq_some_iff.1 hc
    simp only[valB,optNat]at hv
    split at hv
    ·rename_i n hn
     unfold sliceL at hv
     split at hv
     ·simp_all
     ·simp_all
     ·simp_all
     ·rename_i m own _ hs
      simp only[Option.some.injEq]at hv;subst hv
      exact val_cb hI hρ ho h1 he h2 hb hs
     ·cases hv
    ·cases hv
   ·cases hc
  ·cases hc
 ·
  split at hc
  ·split at hc
   ·obtain⟨zs,_,rfl⟩:=Option.map_eq_some_iff.1 hc
    simp[valB]at hv
   ·cases hc
  ·cases hc
 ·
  rename_i t a ho
  split at hc
  ·cases hc
  ·rename_i d hne hd
   obtain⟨b,hb,rfl⟩:=Option.map_eq_some_iff.1 hc
   simp only[valB,Option.some.injEq]at hv;subst hv
   exact val_mi hI hρ ho hb hd hne
  ·cases hc
 ·
  rename_i f a b ho
  simp only[Option.bind_eq_bind,Option.bind_eq_some_iff,Option.some.injEq]at hc
  obtain⟨ba,h1,bb,h2,rfl⟩:=hc
  simp only[valB,Option.some.injEq]at hv;subst hv
  exact val_mf hI hρ ho h1 h2
 ·
  rename_i a i ho
  obtain⟨b,hb,rfl⟩:=Option.map_eq_some_iff.1 hc
  simp only[valB]at hv
  split at hv
  ·rename_i vs hvs
   exact val_xt hI hρ ho hb hvs hv
  ·cases hv
 ·
  rename_i t n ps ho
  split at hc
  ·rename_i e hu
   split at hc
   ·rename_i s hs
    split at hc
    ·rename_i hcond
     simp only[Option.bind_eq_bind,Option.bind_eq_some_iff,Option.some.injEq]at hc
     obtain⟨bl,hbl,rfl⟩:=hc
     simp only[valB]at hv
     split at hv
     ·rename_i hall
      simp only[Option.some.injEq]at hv;subst hv
      obtain⟨zs,hz⟩:=Option.isSome_iff_exists.1 hcond.2.2.2.1
      exact val_bs hI hρ ho hu hs hcond.1 hcond.2.1 hcond.2.2.1 hz hcond.2.2.2.2 hbl hall
     ·cases hv
    ·cases hc
   ·cases hc
  ·cases hc
 ·
  rename_i t ps ho
  split at hc
  ·rename_i fs zs hu hz
   split at hc
   ·rename_i hall
    simp only[Option.bind_eq_bind,Option.bind_eq_some_iff,Option.some.injEq]at hc
    obtain⟨bps,hb,rfl⟩:=hc
    simp only[valB]at hv
    obtain⟨cs,hcs,rfl⟩:=Option.map_eq_some_iff.1 hv
    obtain⟨q1,q2⟩:=mapM_parts hb
    have hpm:(ps.map fun x=>(x.1,ρ x.2)).toList=ps.toList.map fun p=>(p.1,ρ p.2):=by simp
    refine val_bd (place:=fun i=>((fs.toList.map fun f=>(f.offset,(sizeO P f.type).getD 0))[i]?)) hI hρ ho hz (by simpa using q1.symm) (fun k p q hp hq=>?_) (fun zv cells hzv hfill=>?_) hcs
    ·have:=q2 k p q hp hq
     unfold placeS at this
     split at this
     ·rename_i f hf
      split at this
      ·rename_i n x hn hx
       simp only[Option.some.injEq]at this;subst this
       refine⟨?_,hx⟩
       have hf':fs.toList[p.1]? = some f:=by rw[Array.getElem?_toList];exact hf
       simp[hf',hn]
      ·cases this
     ·cases this
    ·have hm:(fs.mapM fun f=>(do pure (f.offset,<-sizeOf f.type):Sem (Nat×Nat))).run P w=.ok (fs.toList.map fun f=>(f.offset,(sizeO P f.type).getD 0)).toArray w:=run_places hall
     simp only[Instr.build,Sem.run_bind,hzv,run_underlying hu,Result.andThen_ok,hm,hpm]
     have hfun:(fun x:Nat=>(fs.toList.map fun f=>(f.offset,(sizeO P f.type).getD 0)).toArray[x]?)=fun i=>((fs.toList.map fun f=>(f.offset,(sizeO P f.type).getD 0))[i]?):=by
      funext i;simp
     rw[hfun,hfill]
     rfl
   ·cases hc
  ·rename_i n e zs hu hz
   simp only[Option.bind_eq_bind,Option.bind_eq_some_iff,Option.some.injEq]at hc
   obtain⟨s,hs,bps,hb,rfl⟩:=hc
   simp only[valB]at hv
   obtain⟨cs,hcs,rfl⟩:=Option.map_eq_some_iff.1 hv
   obtain⟨q1,q2⟩:=mapM_parts hb
   have hpm:(ps.map fun x=>(x.1,ρ x.2)).toList=ps.toList.map fun p=>(p.1,ρ p.2):=by simp
   refine val_bd (place:=fun i=>some (i*s,s)) hI hρ ho hz (by simpa using q1.symm) (fun k p q hp hq=>?_) (fun zv cells hzv hfill=>?_) hcs
   ·have:=q2 k p q hp hq
    unfold placeA at this
    obtain⟨x,hx,rfl⟩:=Option.map_eq_some_iff.1 this
    exact⟨rfl,hx⟩
   ·simp only[Instr.build,Sem.run_bind,hzv,run_underlying hu,Result.andThen_ok,run_size hs,hpm]
    rw[hfill]
    rfl
  ·cases hc
 ·
  rename_i a ho
  obtain⟨b,hb,rfl⟩:=Option.map_eq_some_iff.1 hc
  simp only[valB]at hv
  split at hv
  ·rename_i q k hq
   simp only[Option.some.injEq]at hv;subst hv
   rw[<-hq]
   exact val_nc hI hρ ho hb (.inl ⟨_,_,hq⟩)
  ·rename_i cs k hq
   simp only[Option.some.injEq]at hv;subst hv
   rw[<-hq]
   exact val_nc hI hρ ho hb (.inr ⟨_,_,hq⟩)
  ·cases hv
 ·
  rename_i t a i ok ho
  split at hc
  ·rename_i kt et hu
   simp only[Option.bind_eq_bind,Option.bind_eq_some_iff,Option.some.injEq]at hc
   obtain⟨e,h1,z,h2,b,h3,bi,h4,rfl⟩:=hc
   simp only[valB]at hv
   split at hv
   ·rename_i hself
    obtain⟨k1,k2,k3⟩:=val_lk (H:=H) (P:=P) hI hρ ho hu h1 h2 h3 h4 hself
    split at hv
    ·rename_i hn
     simp only[Option.some.injEq]at hv;subst hv
     exact k1 hn
    ·rename_i m hm
     split at hv
     ·rename_i es hl
      split at hv
      ·rename_i v hf
       simp only[Option.some.injEq]at hv;subst hv
       exact k3 _ _ _ hm (hI.objs _ _ hl).2 hf
      ·rename_i hf
       simp only[Option.some.injEq]at hv;subst hv
       exact k2 _ _ hm (hI.objs _ _ hl).2 hf
      ·cases hv
     ·rename_i es hl
      obtain⟨_,es0,hp,hM⟩:=hI.objs _ _ hl
      rw[<-findU_perm hp]at hv
      split at hv
      ·rename_i v hf
       simp only[Option.some.injEq]at hv;subst hv
       exact k3 _ _ _ hm hM (findU_findL hf)
      ·rename_i hf
       simp only[Option.some.injEq]at hv;subst hv
       exact k2 _ _ hm hM (findU_findL hf)
      ·cases hv
     ·cases hv
    ·cases hv
   ·cases hv
  ·cases hc
 ·
  rename_i a xt t ho
  split at hc
  ·cases hc
  ·rename_i d hne hd
   simp only[Option.bind_eq_bind,Option.bind_eq_some_iff,Option.some.injEq]at hc
   obtain⟨z,h1,b,h2,rfl⟩:=hc
   simp only[valB]at hv
   obtain⟨k1,k2⟩:=val_ta (H:=H) (P:=P) hI hρ ho hd hne h1 h2
   split at hv
   ·rename_i u v hu
    simp only[Option.some.injEq]at hv;subst hv
    exact k1 _ _ hu
   ·rename_i hu
    simp only[Option.some.injEq]at hv;subst hv
    exact k2 hu
   ·cases hv
  ·cases hc
 ·
  rename_i a ho
  obtain⟨b,hb,rfl⟩:=Option.map_eq_some_iff.1 hc
  simp only[valB]at hv
  split at hv
  ·rename_i q hq
   split at hv
   ·rename_i m left i n hl
    split at hv
    ·rename_i es hm
     split at hv
     ·rename_i hn
      obtain⟨kv,hkv,rfl⟩:=Option.map_eq_some_iff.1 hv
      exact val_en hI hρ ho hb hq hl hm hn hkv
     ·cases hv
    ·cases hv
   ·cases hv
  ·cases hv
 ·split at hc
  ·simp only[Option.some.injEq]at hc;subst hc;cases hv
  ·obtain⟨b,hb,rfl⟩:=Option.map_eq_some_iff.1 hc;cases hv
 ·obtain⟨b,hb,rfl⟩:=Option.map_eq_some_iff.1 hc;cases hv
 ·simp only[Option.bind_eq_bind,Option.bind_eq_some_iff,Option.some.injEq]at hc
  obtain⟨_,_,_,_,_,_,rfl⟩:=hc;cases hv
 ·simp only[Option.some.injEq]at hc;subst hc;cases hv
 ·split at hc
  ·simp only[Option.bind_eq_bind,Option.bind_eq_some_iff,Option.some.injEq]at hc
   obtain⟨_,_,_,_,_,_,_,_,rfl⟩:=hc;cases hv
  ·cases hc
 ·split at hc
  ·simp only[Option.bind_eq_bind,Option.bind_eq_some_iff,Option.some.injEq]at hc
   obtain⟨_,_,_,_,_,_,_,_,rfl⟩:=hc;cases hv
  ·cases hc
 ·split at hc
  ·obtain⟨b,hb,rfl⟩:=Option.map_eq_some_iff.1 hc;cases hv
  ·cases hc
 ·obtain⟨b,hb,rfl⟩:=Option.map_eq_some_iff.1 hc;cases hv
 ·obtain⟨b,hb,rfl⟩:=Option.map_eq_some_iff.1 hc;cases hv
 ·
  rename_i bi args argTypes ho
  split at hc
  ·rename_i a t hargs hty
   have ha:args=#[a]:=by rw[<-Array.toArray_toList (xs:=args),hargs]
   have ht:argTypes[0]? = some t:=by rw[<-Array.toArray_toList (xs:=argTypes),hty];rfl
   subst ha
   split at hc
   ·rename_i hu
    obtain⟨b,hb,rfl⟩:=Option.map_eq_some_iff.1 hc
    simp only[valB]at hv
    obtain⟨n,hn,rfl⟩:=Option.map_eq_some_iff.1 hv
    exact val_ln (k:=0) hI hρ ho rfl rfl ht hu hb hn
   ·rename_i e hu
    obtain⟨b,hb,rfl⟩:=Option.map_eq_some_iff.1 hc
    simp only[valB]at hv
    obtain⟨n,hn,rfl⟩:=Option.map_eq_some_iff.1 hv
    exact val_ln (k:=1) hI hρ ho rfl rfl ht ⟨e,hu⟩ hb hn
   ·rename_i k e hu
    obtain⟨b,hb,rfl⟩:=Option.map_eq_some_iff.1 hc
    simp only[valB]at hv
    obtain⟨n,hn,rfl⟩:=Option.map_eq_some_iff.1 hv
    exact val_ln (k:=2) hI hρ ho rfl rfl ht ⟨k,e,hu⟩ hb hn
   ·cases hc
  ·split at hc
   ·split at hc
    ·simp only[Option.bind_eq_bind,Option.bind_eq_some_iff,Option.some.injEq]at hc
     obtain⟨_,_,_,_,_,_,rfl⟩:=hc;cases hv
    ·cases hc
   ·cases hc
  ·rename_i _ a b hargs
   have ha:args=#[a,b]:=by rw[<-Array.toArray_toList (xs:=args),hargs]
   subst ha
   simp only[Option.bind_eq_bind,Option.bind_eq_some_iff,Option.some.injEq]at hc
   obtain⟨ba,h2,bb,h3,rfl⟩:=hc
   simp only[valB]at hv
   split at hv
   ·rename_i k m k' n hm hn
    split at hv
    ·rename_i hk
     subst hk
     simp only[Option.some.injEq]at hv;subst hv
     exact val_mn (mx:=false) hI hρ ho rfl rfl h2 h3 hm hn
    ·cases hv
   ·cases hv
  ·rename_i _ a b hargs
   have ha:args=#[a,b]:=by rw[<-Array.toArray_toList (xs:=args),hargs]
   subst ha
   simp only[Option.bind_eq_bind,Option.bind_eq_some_iff,Option.some.injEq]at hc
   obtain⟨ba,h2,bb,h3,rfl⟩:=hc
   simp only[valB]at hv
   split at hv
   ·rename_i k m k' n hm hn
    split at hv
    ·rename_i hk
     subst hk
     simp only[Option.some.injEq]at hv;subst hv
     exact val_mn (mx:=true) hI hρ ho rfl rfl h2 h3 hm hn
    ·cases hv
   ·cases hv
  ·simp only[Option.some.injEq]at hc;subst hc;cases hv
  ·cases hc
 ·obtain⟨b,hb,rfl⟩:=Option.map_eq_some_iff.1 hc;cases hv
 ·simp only[Option.bind_eq_bind,Option.bind_eq_some_iff,Option.some.injEq]at hc
  obtain⟨_,_,_,_,rfl⟩:=hc;cases hv
 ·simp only[Option.bind_eq_bind,Option.bind_eq_some_iff,Option.some.injEq]at hc
  obtain⟨_,_,_,_,rfl⟩:=hc;cases hv
 ·cases hc
theorem effB_sound(hI:Inv G w H)(hρ:EvR E G w fr ρ){bop:BOp}{x:LV}(hc:cOp P o=some bop)(hv:effB E fr H bop=some (x,H')):EffOk P G w ρ o x H':=by
 cases bop<;>simp only[effB]at hv<;>try (cases hv;done)
 ·
  obtain⟨t,ho,hz⟩:=inv_al hc
  simp only[Option.some.injEq,Prod.mk.injEq]at hv
  obtain⟨rfl,rfl⟩:=hv
  exact eff_al hI ho hz
 ·obtain⟨t,y,ho,hx⟩:=inv_bx hc
  split at hv
  ·rename_i hw
   simp only[Option.some.injEq,Prod.mk.injEq]at hv
   obtain⟨rfl,rfl⟩:=hv
   exact eff_bx hI hρ ho hx hw
  ·cases hv
 ·obtain⟨t,y,z,ho,hn,hy,hz⟩:=inv_st hc
  split at hv
  ·rename_i q off hq
   split at hv
   ·rename_i cs hl
    split at hv
    ·rename_i hcond
     simp only[Option.some.injEq,Prod.mk.injEq]at hv
     obtain⟨rfl,rfl⟩:=hv
     exact(eff_st hI hρ ho hn hy hz hq hcond.1 hcond.2.1).1 _ hl hcond.2.2
    ·cases hv
   ·rename_i sz cs hl
    split at hv
    ·rename_i hcond
     simp only[Option.some.injEq,Prod.mk.injEq]at hv
     obtain⟨rfl,rfl⟩:=hv
     exact(eff_st hI hρ ho hn hy hz hq hcond.1 hcond.2.1).2 _ _ hl hcond.2.2
    ·cases hv
   ·cases hv
  ·cases hv
 ·
  obtain⟨c,y,z,t,u,e,ti,zs,ho,hcal,hargs,hty,ht,hu,hsz,hti,hby,hz,hy,hx⟩:=inv_ap hc
  split at hv
  ·rename_i es own xs ownx hes hxs
   split at hv
   ·rename_i hall
    simp only[Bool.and_eq_true]at hall
    split at hv
    ·rename_i hcond
     obtain⟨k1,k2⟩:=eff_ap hI hρ ho hcal hargs hty ht hu hsz hti hby hz hy hx hes hxs hall.1 hall.2 hcond.1 hcond.2.2
     split at hv
     ·rename_i i
      simp only[Option.some.injEq,Prod.mk.injEq]at hv
      obtain⟨rfl,rfl⟩:=hv
      exact k1 _ rfl
     ·rename_i hno
      simp only[Option.some.injEq,Prod.mk.injEq]at hv
      obtain⟨rfl,rfl⟩:=hv
      have:own=.full:=by
       cases own with
       |no=>simp[canApp]at hcond
       |full=>rfl
       |tok i=>exact absurd rfl (hno i)
      exact k2 this
    ·cases hv
   ·cases hv
  ·cases hv
 ·
  obtain⟨t,ho⟩:=inv_mk hc
  simp only[Option.some.injEq,Prod.mk.injEq]at hv
  obtain⟨rfl,rfl⟩:=hv
  exact eff_mk hI ho
 ·
  obtain⟨ho,hb⟩:=inv_nb hc
  simp only[Option.some.injEq,Prod.mk.injEq]at hv
  obtain⟨rfl,rfl⟩:=hv
  exact eff_nb hI ho (bldO_zero hb)
 ·
  obtain⟨t,kt,et,x',y,z,ho,ht,hk,h1,h2,h3⟩:=inv_mu hc
  split at hv
  ·rename_i q hq
   split at hv
   ·rename_i es hl
    split at hv
    ·cases hv
    ·rename_i hself
     obtain⟨es',hs,he⟩:=Option.map_eq_some_iff.1 hv
     simp only[Prod.mk.injEq]at he
     obtain⟨rfl,rfl⟩:=he
     exact eff_mu hI hρ ho ht hk h1 h2 h3 (by simpa [Option.isSome_iff_ne_none] using hself) hq hl hs
   ·cases hv
  ·cases hv
 ·
  obtain⟨t,e,i,ti,ho,ht,hti,hby,hz,rfl⟩:=inv_ms hc
  obtain⟨n,hn,hv⟩:=Option.bind_eq_some_iff.1 hv
  split at hv
  ·rename_i hbig
   simp only[Option.some.injEq,Prod.mk.injEq]at hv
   obtain⟨rfl,rfl⟩:=hv
   exact eff_ms hI hρ ho ht hti hby hz hn hbig
  ·cases hv
 ·
  obtain⟨t,kt,et,y,ho,ht,hx⟩:=inv_rg hc
  split at hv
  ·rename_i hn
   simp only[Option.some.injEq,Prod.mk.injEq]at hv
   obtain⟨rfl,rfl⟩:=hv
   exact eff_rg_nil hI hρ ho ht hx hn
  ·rename_i m hm
   split at hv
   ·rename_i es hl
    simp only[Option.some.injEq,Prod.mk.injEq]at hv
    obtain⟨rfl,rfl⟩:=hv
    exact eff_rg hI hρ ho ht hx hm hl
   ·cases hv
  ·cases hv
theorem effB2_sound(hI:Inv G w H)(hρ:EvR E G w fr ρ){bop:BOp}{x:LV}(hc:cOp P o=some bop)(hv:effB2 E fr H bop=some (x,H')):EffOk P G w ρ o x H':=by
 cases bop<;>try (simp[effB2]at hv;done)
 obtain⟨c,y,z,t,u,e,ti,zs,h1,h2,h3,h4,h5,h6,h7,h8,h9,h10,h11,h12⟩:=inv_ap hc
 exact eff_aq hI hρ h1 h2 h3 h4 h5 h6 h7 h8 h9 h10 h11 h12 hv
theorem effR_sound(hI:Inv G w H)(hρ:EvR E G w fr ρ){bop:BOp}{x:LV}(hc:cOp P o=some bop)(hv:effR E fr H bop x H'):EffOk P G w ρ o x H':=
 hv.elim (effB_sound hI hρ hc) (effB2_sound hI hρ hc)
end
end Go.Abs
namespace Go.Abs
open Go
theorem Inv.wk{G:Ghost}{w:World}{H H':LHeap}(hI:Inv G w H)(h:HWk H H'):Inv G w H' where
 n:=Nat.le_trans hI.n h.1
 hB:=hI.hB
 free:=hI.free
 old:=hI.old
 objs o x hx:=by
  obtain⟨h1,h2⟩:=hI.objs o x (h.2 o x hx)
  refine⟨h1,?_⟩
  cases x with
  |cells=>exact h2
  |arr=>exact h2
  |map=>exact h2
  |um=>exact h2
  |tok=>exact h2
  |bld=>exact h2
  |rcd=>exact h2
  |dfr=>exact h2
  |lft=>exact h2
  |iter m left cur n=>
   obtain⟨a,b,c⟩:=h2
   refine⟨a,b,?_⟩
   split
   ·rename_i he;rw[if_pos he]at c;exact c
   ·rename_i he;rw[if_neg he]at c
    obtain⟨seen,stepped,c1,c2,c3,c4,c5⟩:=c
    exact⟨seen,stepped,c1,c2,c3,fun es hl=>c4 es (h.2 _ _ hl),fun es hl=>c5 es (h.2 _ _ hl)⟩
theorem FR.wk{G:Ghost}{w:World}{N:Nat}{fr fr':Fr}{a:Act}(hf:FR G w N fr a)(h:FWk fr fr'):FR G w N fr' a:=
 ⟨hf.size,fun k=>(hf.slot k).wk (h k)⟩
theorem put_defers(a:Act)(d:Option Tmp)(v:Value):(a.put d v).defers=a.defers:=by cases d<;>rfl
def ArgsR(G:Ghost)(w:World)(vs:List LV)(us:Array Value):Prop:=us.size=vs.length/\∀(i:Nat)(x:LV),vs[i]? = some x->VR G w x (us.getD i undef)
def ExR(G:Ghost)(w:World):LExit->Exit->Prop
 |.normal,.normal=>True
 |.exit n,.exit m=>n=m
 |.ret,.ret=>True
 |.pan v,.panic ch=>∃u,ch=[{ v:=u,recovered:=false }]/\VR G w v u
 |_,_=>False
def CodePost(G:Ghost)(w:World)(N:Nat)(ds:List Deferred)(S:Res->Prop):Exit->Act->World->Prop:=fun e a' w'=>
 ∃le fr' df' H' G',S (.code le fr' df' H')/\ExR G' w' le e/\Inv G' w' H'/\FR G' w' N fr' a'/\a'.defers=ds/\Ext G w G' w'
theorem CodePost.from{G G₁:Ghost}{w w₁:World}{N:Nat}{ds:List Deferred}{S:Res->Prop}{e:Exit}{a':Act}{w':World}(hE:Ext G w G₁ w₁)(h:CodePost G₁ w₁ N ds S e a' w'):
  CodePost G w N ds S e a' w':=by
 obtain⟨le,fr',df',H',G',h1,h2,h3,h4,h5,h6⟩:=h
 exact⟨le,fr',df',H',G',h1,h2,h3,h4,h5,hE.trans h6⟩
def CallPost(G:Ghost)(w:World)(S:Res->Prop):Ending->World->Prop
 |.returned u,w'=>∃v H' G',S (.ret v H')/\VR G' w' v u/\Inv G' w' H'/\Ext G w G' w'
 |.panicked ch,w'=>∃v u H' G',S (.pan v H')/\ch=[{ v:=u,recovered:=false }]/\VR G' w' v u/\Inv G' w' H'/\Ext G w G' w'
 |.outgrown,_=>False
def Enters(P:Program)(f:FuncId):Prop:=∃fn,P.funcs[f]? = some fn/\fn.body.isSome=true/\fn.name ≠ "runtime.NumGoroutine"
def CallOk(P:Program)(E:Env)(f:FuncId)(args:List LV)(H:LHeap)(S:Res->Prop):Prop:=
 Enters P f/\∀(G:Ghost)(w:World)(us:Array Value),Inv G w H->EnvR E G w->ArgsR G w args us->Calls P f us w (CallPost G w S)
def OpsOk(P:Program)(E:Env)(b:List BI)(fr:Fr)(H:LHeap)(S:Res->Prop):Prop:=
 ∀(ro:Option Nat)(nf N:Nat)(ops:Array Oper)(ol:List Oper)(G:Ghost)(w:World)(a:Act)(Q:Exit->Act->World->Prop),ol.mapM (cI P N ops)=some b->Inv G w H->EnvR E G w->FR G w N fr a ->
  (∀e a' w',CodePost G w N a.defers S e a' w'->Q e a' w')->wpListIn (fen ro) nf P ops Q ol a w
section
variable{P:Program}{E:Env}{G:Ghost}{w:World}{fr:Fr}{H:LHeap}{N:Nat}{a:Act}{ops:Array Oper}{o:Oper}
theorem cI_inv{b:BI}(h:cI P N ops o=some b):(b.op≠.bad->cOp P o=some b.op)/\b.d=o.dst/\o.dst.all (·<N)=true /\
  ((o.guard=none/\b.g=none)\/∃j t d,o.guard=some (j,t)/\(ops[j]?).bind (·.dst)=some d/\b.g=some (d,t)):=by
 unfold cI at h
 have key:((cOp P o).getD .bad≠.bad->cOp P o=some ((cOp P o).getD .bad)):=by
  cases hop:cOp P o with
  |none=>intro h;exact absurd rfl h
  |some op=>intro _;rfl
 cases hg:o.guard with
 |none=>
  simp only[hg,Option.bind_eq_bind,Option.bind_some]at h
  split at h
  ·rename_i hd
   simp at h;subst h
   exact⟨key,rfl,hd,.inl ⟨rfl,rfl⟩⟩
  ·cases h
 |some jt=>
  obtain⟨j,t⟩:=jt
  cases hj:(ops[j]?).bind (·.dst) with
  |none=>simp[hg,hj]at h
  |some d=>
   simp only[hg,hj,Option.bind_eq_bind,Option.bind_some]at h
   split at h
   ·rename_i hd
    simp at h;subst h
    exact⟨key,rfl,hd,.inr ⟨j,t,d,rfl,hj,rfl⟩⟩
   ·cases h
theorem valB_nb{H:LHeap}{op:BOp}{v:LV}(h:valB E fr H op=some v):op≠.bad:=by rintro rfl;simp[valB]at h
theorem effR_nb{H H':LHeap}{op:BOp}{v:LV}(h:effR E fr H op v H'):op≠.bad:=by rintro rfl;rcases h with h|h<;>simp[effB,effB2]at h
theorem calleeB_nb{op:BOp}{r:FuncId×List LV}(h:calleeB E fr op=some r):op≠.bad:=by rintro rfl;simp[calleeB]at h
theorem tmp_bool{x:Array Value}{d:Nat}{b:Bool}(h:x.getD d undef=.bool b):x[d]? = some (.bool b):=by
 rw[Array.getD_eq_getD_getElem?]at h
 cases hx:x[d]? with
 |none=>rw[hx]at h;simp[undef]at h
 |some v=>rw[hx]at h;simpa using h
theorem wanted_slot{b:BI}(hc:cI P N ops o=some b){t:Bool}{c:Bool}(hs:∀d u,b.g=some (d,u)->a.tmps.getD d undef=.bool c/\(c==u)=t)
  (hn:b.g=none->t=true):Region.wanted o (yielded ops a.tmps)=t:=by
 obtain⟨_,_,_,hg⟩:=cI_inv hc
 rcases hg with⟨h1,h2⟩|⟨j,u,d,h1,h2,h3⟩
 ·simp[Region.wanted,h1,hn h2]
 ·obtain⟨h4,h5⟩:=hs d u h3
  have h6:=tmp_bool h4
  simp only[Region.wanted,h1,yielded,h2,Option.bind_some,h6]
  rw[<-h5]
  cases c<;>cases u<;>rfl
theorem wanted_skip{b:BI}(hc:cI P N ops o=some b){d:Nat}{u:Bool}(hd:b.g=some (d,u))(h:a.tmps.getD d undef=.tuple #[]):Region.wanted o (yielded ops a.tmps)=false:=by
 obtain⟨_,_,_,hg⟩:=cI_inv hc
 rcases hg with⟨h1,h2⟩|⟨j,u',d',h1,h2,h3⟩
 ·rw[hd]at h2;cases h2
 ·rw[hd]at h3;simp only[Option.some.injEq,Prod.mk.injEq]at h3;obtain⟨rfl,rfl⟩:=h3
  have h6:∀c,a.tmps[d]?≠some (.bool c):=by
   intro c hcc
   rw[Array.getD_eq_getD_getElem?,hcc]at h
   simp at h
  have h7:yielded ops a.tmps j=none:=by
   unfold yielded
   rw[h2]
   show (match a.tmps[d]? with|some (.bool b)=>some b|_=>none)=none
   cases hx:a.tmps[d]? with
   |none=>rfl
   |some v=>
    cases v with
    |bool c=>exact absurd hx (h6 c)
    |_=>rfl
  simp[Region.wanted,h1,h7]
theorem wanted_sound{b:BI}(hc:cI P N ops o=some b){t:Bool}(h:wantedB fr b.g=some t)(hs:∀d u,b.g=some (d,u)->VR G w (fr d) (a.tmps.getD d undef)):
  Region.wanted o (yielded ops a.tmps)=t:=by
 cases hg:b.g with
 |none=>
  rw[hg]at h
  refine wanted_slot (c:=true) hc (fun d u hd=>by rw[hg]at hd;cases hd) fun _=>?_
  simpa [wantedB] using h.symm
 |some du=>
  obtain⟨d,u⟩:=du
  rw[hg]at h
  simp only[wantedB]at h
  split at h
  ·rename_i c hfr
   have h1:=hs d u hg
   rw[hfr]at h1
   refine wanted_slot (c:=c) hc (fun d' u' hd=>?_) (fun hn=>by rw[hg]at hn;cases hn)
   rw[hg]at hd;simp at hd;obtain⟨rfl,rfl⟩:=hd
   exact⟨h1.sc_inv,by simpa using h⟩
  ·rename_i hfr
   have h1:=hs d u hg
   rw[hfr]at h1
   obtain⟨vs,h2,h3,_⟩:=h1.tup_inv
   simp only[Option.some.injEq]at h
   subst h
   exact wanted_skip hc hg (by rw[h2];cases vs;simp at h3;subst h3;rfl)
  ·cases h
theorem call_enter{fn:Func}{f:FuncId}(hf:P.funcs[f]? = some fn)(hb:fn.body.isSome=true)(hn:fn.name ≠ "runtime.NumGoroutine")(us:Array Value):
  (callFunc f us).run P w=.ok (.enter f us) w:=by
 have h3:fn.body≠none:=by cases hh:fn.body<;>simp_all
 simp[callFunc,hf,hn,h3]
theorem ArgsR.append{xs ys:List LV}{us vs:Array Value}(h:ArgsR G w xs us)(k:ArgsR G w ys vs):ArgsR G w (xs++ys) (us++vs):=by
 refine⟨by simp[h.1,k.1],fun i x hx=>?_⟩
 rw[List.getElem?_append]at hx
 split at hx
 ·rename_i hi
  have:=h.2 i x hx
  rw[Array.getD_eq_getD_getElem?,Array.getElem?_append_left (by rw[h.1];exact hi),<-Array.getD_eq_getD_getElem?]
  exact this
 ·rename_i hi
  have:=k.2 _ x hx
  rw[Array.getD_eq_getD_getElem?,Array.getElem?_append_right (by rw[h.1];omega),h.1,<-Array.getD_eq_getD_getElem?]
  exact this
theorem call_run{ρ:Operand->Value}{op:BOp}{f:FuncId}{args:List LV}(hρ:EvR E G w fr ρ)(hc:cOp P o=some op)(h:calleeB E fr op=some (f,args))(he:Enters P f):
  ∃us,(execOp ρ o).run P w=.ok (.enter f us) w/\ArgsR G w args us:=by
 obtain⟨fn,hf,hb,hn⟩:=he
 have key:∀(c:Call)(y:Operand)(x:BO)(as:List BO)(first cap:List LV),o.op=.call c->c.callee=.value y->cO y=some x->c.args.toList.mapM cO=some as->E.ev fr x=.fn (.func f) first cap ->
   args=first++evs E fr as++cap->∃us,(execOp ρ o).run P w=.ok (.enter f us) w/\ArgsR G w args us:=by
  intro c y x as first cap ho hcal hy has hev hargs
  have h0:=hρ _ _ hy
  rw[hev]at h0
  obtain⟨us,vs,hv,h1,h2,h3,h4⟩:=h0.fn_inv
  obtain⟨h5,h6⟩:=map_VR hρ has
  refine⟨us++c.args.map ρ++vs,?_,?_⟩
  ·simp only[execOp,ho,resolve,hcal,hv,Deferred.ofValue,Sem.run_bind,Sem.run_pure,invoke]
   exact call_enter hf hb hn _
  ·rw[hargs]
   refine ArgsR.append (ArgsR.append ⟨h1,h3⟩ ⟨?_,?_⟩) ⟨h2,h4⟩
   ·rw[h5];simp[evs]
   ·intro i z hz;exact h6 i z (by simpa [evs] using hz)
 cases op<;>simp only[calleeB]at h<;>try (cases h;done)
 ·rename_i g as
  simp at h;obtain⟨rfl,rfl⟩:=h
  obtain⟨c,ho,hcal,has⟩:=inv_cf hc
  exact key c (.func g) (.c (.fn (.func g) [] [])) as [] [] ho hcal rfl has rfl (by simp)
 ·rename_i x as
  split at h
  ·rename_i g first cap hev
   simp only[Option.some.injEq,Prod.mk.injEq]at h;obtain⟨rfl,rfl⟩:=h
   obtain⟨c,y,ho,hcal,hy,has⟩:=inv_cl hc
   exact key c y x as first cap ho hcal hy has hev rfl
  ·cases h
end
end Go.Abs
namespace Go.Abs
open Go
theorem mapM_cons_inv{α β:Type}{f:α->Option β}{ol:List α}{i:β}{l:List β}(h:ol.mapM f=some (i::l)):∃o ol',ol=o::ol'/\f o=some i/\ol'.mapM f=some l:=by
 cases ol with
 |nil=>simp at h
 |cons o ol=>
  rw[List.mapM_cons]at h
  cases ho:f o with
  |none=>simp[ho]at h
  |some b=>
   cases hl:ol.mapM f with
   |none=>simp[ho,hl]at h
   |some bl=>simp[ho,hl]at h;obtain⟨rfl,rfl⟩:=h;exact⟨o,ol,rfl,ho,hl⟩
theorem mapM_nil_inv{α β:Type}{f:α->Option β}{ol:List α}(h:ol.mapM f=some []):ol=[]:=by
 cases ol with
 |nil=>rfl
 |cons o ol=>
  rw[List.mapM_cons]at h
  cases ho:f o with
  |none=>simp[ho]at h
  |some b=>
   cases hl:ol.mapM f with
   |none=>simp[ho,hl]at h
   |some bl=>simp[ho,hl]at h
section
variable{P:Program}{E:Env}{fr:Fr}{H:LHeap}{S:Res->Prop}{i:BI}{l:List BI}
theorem ops_nil{df:List LDef}(h:S (.code .normal fr df H)):OpsOk P E [] fr H S:=by
 intro ro nf N ops ol G w a Q hm hI hE hf hQ
 obtain rfl:=mapM_nil_inv hm
 exact hQ _ _ _ ⟨.normal,fr,df,H,G,h,trivial,hI,hf,rfl,Ext.refl _ _⟩
theorem ops_pass(hw:wantedB fr i.g=some false)(ih:OpsOk P E l (putD fr i.d (.tup [])) H S):OpsOk P E (i::l) fr H S:=by
 intro ro nf N ops ol G w a Q hm hI hE hf hQ
 obtain⟨o,ol,rfl,ho,hl⟩:=mapM_cons_inv hm
 obtain⟨h1,h2,h3,h4⟩:=cI_inv ho
 unfold wpListIn
 rw[if_neg (by rw[wanted_sound ho hw fun d u _=>hf.slot d];simp)]
 refine⟨fun _ _=>trivial,ih ro nf N ops ol G w _ Q hl hI hE ?_ (by rwa [put_defers])⟩
 rw[h2]
 exact hf.put h3 (VR.tup rfl fun i c h=>(by simp at h))
theorem ops_yield(hb:i.op≠.bad)(hw:wantedB fr i.g=some true)(h:∀(G:Ghost) (w:World) (ρ:Operand->Value) (o:Oper),Inv G w H->EvR E G w fr ρ->(∀v,ρ (.const v)=v)->cOp P o=some i.op ->
   ∃v H',EffOk P G w ρ o v H'/\OpsOk P E l (putD fr i.d v) H' S):OpsOk P E (i::l) fr H S:=by
 intro ro nf N ops ol G w a Q hm hI hE hf hQ
 obtain⟨o,ol,rfl,ho,hl⟩:=mapM_cons_inv hm
 obtain⟨h1,h2,h3,h4⟩:=cI_inv ho
 unfold wpListIn
 rw[if_pos (wanted_sound ho hw fun d u _=>hf.slot d)]
 obtain⟨v,H',⟨u,w',G',hy,hv,hx,hI'⟩,ih⟩:=h G w a.eval o hI (ev_VR hE hf) (fun _=>rfl) (h1 hb)
 refine hy.wpIn ?_
 refine ih ro nf N ops ol G' w' _ Q hl hI' (hE.mono hx) ?_ (fun e a' w' hp=>hQ _ _ _ (.from hx (by rwa [put_defers]at hp)))
 rw[h2]
 exact(hf.mono hx).put h3 hv
theorem call_wp{ro:Option Nat}{nf N:Nat}{ops:Array Oper}{o:Oper}{G:Ghost}{w:World}{a:Act}{Q:Exit->Act->World->Prop}{K:Act->World->Prop}{T:Res->Prop}{op:BOp}{f:FuncId}{args:List LV}{fr':Fr}
  (hI:Inv G w H) (hE:EnvR E G w) (hρ:EvR E G w fr' a.eval) (hc:cOp P o=some op) (h:calleeB E fr' op=some (f,args)) (hcall:CallOk P E f args H T)
  (hret:∀v H' G' w' u,T (.ret v H')->VR G' w' v u->Inv G' w' H'->Ext G w G' w'->K (a.put o.dst u) w')
  (hpan:∀v H' G' w' u,T (.pan v H')->VR G' w' v u->Inv G' w' H'->Ext G w G' w'->Q (.panic [{ v:=u,recovered:=false }]) a w'):o.wpIn (fen ro) nf P a w K Q:=by
 obtain⟨he,hc2⟩:=hcall
 obtain⟨us,hrun,hargs⟩:=call_run hρ hc h he
 have hd:∀c,o.op≠.defer c:=fun c hc=>by obtain⟨d,hd⟩:=exec_defer hc hrun;cases hd
 refine⟨fun _ _=>trivial,?_⟩
 rw[show (fen ro).round=ro from rfl,Oper.semAt_eq ro _ _ hd,hrun,Oper.uponIn_enter]
 refine⟨fun h=>(by cases h),?_⟩
 have hcc:=callsIn_wide (n:=nf - 1).2 (hc2 G w us hI hE hargs)
 refine CallsIn.mono (F:=fen ro) hcc fun e w' hp=>?_
 cases e with
 |returned u=>obtain⟨v,H',G',h1,h2,h3,h4⟩:=hp;exact hret _ _ _ _ _ h1 h2 h3 h4
 |panicked ch=>obtain⟨v,u,H',G',h1,rfl,h2,h3,h4⟩:=hp;exact hpan _ _ _ _ _ h1 h2 h3 h4
 |outgrown=>exact hp.elim
theorem ops_call{df:List LDef}{T:Res->Prop}{f:FuncId}{args:List LV}(hw:wantedB fr i.g=some true)(h:calleeB E fr i.op=some (f,args))(hcall:CallOk P E f args H T)
  (hret:∀v H',T (.ret v H')->OpsOk P E l (putD fr i.d v) H' S) (hpan:∀v H',T (.pan v H')->S (.code (.pan v) fr df H')):OpsOk P E (i::l) fr H S:=by
 intro ro nf N ops ol G w a Q hm hI hE hf hQ
 obtain⟨o,ol,rfl,ho,hl⟩:=mapM_cons_inv hm
 obtain⟨h1,h2,h3,h4⟩:=cI_inv ho
 unfold wpListIn
 rw[if_pos (wanted_sound ho hw fun d u _=>hf.slot d)]
 refine call_wp (N:=N) (ops:=ops) hI hE (ev_VR hE hf) (h1 (calleeB_nb h)) h hcall (fun v H' G' w' u hT hv hI' hx=>?_) (fun v H' G' w' u hT hv hI' hx=>?_)
 ·refine hret v H' hT ro nf N ops ol G' w' _ Q hl hI' (hE.mono hx) ?_ (fun e a' w' hp=>hQ _ _ _ (.from hx (by rwa [put_defers]at hp)))
  rw[h2]
  exact(hf.mono hx).put h3 hv
 ·exact hQ _ _ _ ⟨.pan v,fr,df,H',G',hpan v H' hT,⟨u,rfl,hv⟩,hI',hf.mono hx,rfl,hx⟩
theorem ops_pan{df:List LDef}{x:BO}{t:TypeId}{v:LV}(hw:wantedB fr i.g=some true)(hop:i.op=.pn x)(hx:E.ev fr x=.iface t v)(h:S (.code (.pan (E.ev fr x)) fr df H)):
  OpsOk P E (i::l) fr H S:=by
 intro ro nf N ops ol G w a Q hm hI hE hf hQ
 obtain⟨o,ol,rfl,ho,hl⟩:=mapM_cons_inv hm
 obtain⟨h1,h2,h3,h4⟩:=cI_inv ho
 unfold wpListIn
 rw[if_pos (wanted_sound ho hw fun d u _=>hf.slot d)]
 rw[hop]at h1
 obtain⟨y,hoy,hy⟩:=inv_pn (h1 (by simp))
 have hv:=ev_VR hE hf y x hy
 have hv':=hv
 rw[hx]at hv'
 obtain⟨u,hu,hvu⟩:=hv'.iface_inv
 have hd:∀c,o.op≠.defer c:=fun c hc=>by rw[hoy]at hc;cases hc
 refine⟨fun _ _=>trivial,?_⟩
 have:(execOp a.eval o).run P w=.halt (.panic (a.eval y)) w:=by
  simp[execOp,hoy,hu,Instr.panic]
 rw[show (fen ro).round=ro from rfl,Oper.semAt_eq ro _ _ hd,this,Oper.uponIn_panic]
 exact hQ _ _ _ ⟨.pan _,fr,df,H,G,h,⟨_,rfl,hv⟩,hI,hf,rfl,Ext.refl _ _⟩
end
end Go.Abs
namespace Go.Abs
open Go
section
variable{E:Env}{fr fr':Fr}{H H':LHeap}
theorem ev_congr{b:BO}(h:∀u∈b.uses,fr u=fr' u):E.ev fr b=E.ev fr' b:=by
 cases b with
 |t n=>exact h n (by simp[BO.uses])
 |c v=>rfl
 |g n=>rfl
theorem map_congr{l:List BO}(h:∀u∈usesL l,fr u=fr' u):l.map (E.ev fr)=l.map (E.ev fr'):=by
 apply List.map_congr_left
 intro b hb
 exact ev_congr fun u hu=>h u (by simp only[usesL,List.mem_flatMap];exact⟨b,hb,hu⟩)
theorem optNat_congr{d:Nat}{b:Option BO}(h:∀u∈(b.map BO.uses).getD [],fr u=fr' u):optNat fr E.ev d b=optNat fr' E.ev d b:=by
 cases b with
 |none=>rfl
 |some b=>simp only[optNat];rw[ev_congr (fr:=fr) (fr':=fr') fun u hu=>h u (by simpa using hu)]
theorem valB_congr{op:BOp}(h:∀u∈op.uses,fr u=fr' u):valB E fr H op=valB E fr' H op:=by
 cases op<;>simp only[BOp.uses,List.mem_append]at h
 case mf f a b=>simp only[valB,map_congr (E:=E) (fr:=fr) (fr':=fr') fun u hu=>h u (.inl hu),map_congr (E:=E) (fr:=fr) (fr':=fr') fun u hu=>h u (.inr hu)]
 case bs sz ps=>
  have h1:∀p∈ps,E.ev fr p=E.ev fr' p:=fun p hp=>ev_congr fun u hu=>h u (by simp only[usesL,List.mem_flatMap];exact⟨p,hp,hu⟩)
  have h2:ps.map (E.ev fr)=ps.map (E.ev fr'):=map_congr h
  have h3:(ps.all fun p=>(E.ev fr p).cells.length==sz&&(E.ev fr p).whole)=(ps.all fun p=>(E.ev fr' p).cells.length==sz&&(E.ev fr' p).whole):=by
   rw[Bool.eq_iff_iff,List.all_eq_true,List.all_eq_true]
   constructor<;>intro hh p hp<;>have:=hh p hp<;>rw[h1 p hp] at*<;> exact this
  simp only[valB,h2,h3]
 case bd z ps=>
  have h1:(ps.map fun p=>(p.1,p.2.1,E.ev fr p.2.2))=(ps.map fun p=>(p.1,p.2.1,E.ev fr' p.2.2)):=by
   apply List.map_congr_left
   intro p hp
   rw[ev_congr (fr:=fr) (fr':=fr') fun u hu=>h u (by simp only[usesL,List.mem_flatMap,List.mem_map];exact⟨_,⟨p,hp,rfl⟩,hu⟩)]
  simp only[valB,h1]
 case pk c a b=>simp only[valB,ev_congr (E:=E) (fr:=fr) (fr':=fr') fun u hu=>h u (.inl (.inl hu)),ev_congr (E:=E) (fr:=fr) (fr':=fr') fun u hu=>h u (.inl (.inr hu)),ev_congr (E:=E) (fr:=fr) (fr':=fr') fun u hu=>h u (.inr hu)]
 case lk k ok z x i=>simp only[valB,ev_congr (E:=E) (fr:=fr) (fr':=fr') fun u hu=>h u (.inl (.inl hu)),ev_congr (E:=E) (fr:=fr) (fr':=fr') fun u hu=>h u (.inl (.inr hu)),ev_congr (E:=E) (fr:=fr) (fr':=fr') fun u hu=>h u (.inr hu)]
 case sr k sz x l hh=>
  simp only[valB,ev_congr (E:=E) (fr:=fr) (fr':=fr') fun u hu=>h u (.inl (.inl hu)),optNat_congr (E:=E) (fr:=fr) (fr':=fr') fun u hu=>h u (.inl (.inr hu)),optNat_congr (E:=E) (fr:=fr) (fr':=fr') fun u hu=>h u (.inr hu)]
 all_goals first
  |(simp only[valB];done)
  |rfl
  |(simp only[valB,ev_congr (E:=E) (fr:=fr) (fr':=fr') fun u hu=>h u (.inl hu),ev_congr (E:=E) (fr:=fr) (fr':=fr') fun u hu=>h u (.inr hu)];done)
  |(simp only[valB,ev_congr (E:=E) (fr:=fr) (fr':=fr') fun u hu=>h u hu];done)
theorem effB_congr{op:BOp}(h:∀u∈op.uses,fr u=fr' u):effB E fr H op=effB E fr' H op:=by
 cases op<;>simp only[BOp.uses,List.mem_append]at h
 case mu k m a b=>simp only[effB,ev_congr (E:=E) (fr:=fr) (fr':=fr') fun u hu=>h u (.inl (.inl hu)),ev_congr (E:=E) (fr:=fr) (fr':=fr') fun u hu=>h u (.inl (.inr hu)),ev_congr (E:=E) (fr:=fr) (fr':=fr') fun u hu=>h u (.inr hu)]
 all_goals first
  |(simp only[effB];done)
  |rfl
  |(simp only[effB,ev_congr (E:=E) (fr:=fr) (fr':=fr') fun u hu=>h u (.inl hu),ev_congr (E:=E) (fr:=fr) (fr':=fr') fun u hu=>h u (.inr hu)];done)
  |(simp only[effB,ev_congr (E:=E) (fr:=fr) (fr':=fr') fun u hu=>h u hu];done)
theorem effB2_congr{op:BOp}(h:∀u∈op.uses,fr u=fr' u):effB2 E fr H op=effB2 E fr' H op:=by
 cases op<;>simp only[BOp.uses,List.mem_append]at h
 case ap sz s x=>simp only[effB2,ev_congr (E:=E) (fr:=fr) (fr':=fr') fun u hu=>h u (.inl hu),ev_congr (E:=E) (fr:=fr) (fr':=fr') fun u hu=>h u (.inr hu)]
 all_goals rfl
theorem effR_congr{op:BOp}{v:LV}{H'':LHeap}(h:∀u∈op.uses,fr u=fr' u):effR E fr H op v H''=effR E fr' H op v H'':=by
 simp only[effR,effB_congr h,effB2_congr h]
theorem calleeB_congr{op:BOp}(h:∀u∈op.uses,fr u=fr' u):calleeB E fr op=calleeB E fr' op:=by
 cases op<;>simp only[BOp.uses,List.mem_append]at h
 case cf f as=>simp only[calleeB,evs,map_congr (E:=E) (fr:=fr) (fr':=fr') h]
 case cl x as=>simp only[calleeB,evs,map_congr (E:=E) (fr:=fr) (fr':=fr') fun u hu=>h u (.inr hu),ev_congr (E:=E) (fr:=fr) (fr':=fr') fun u hu=>h u (.inl hu)]
 all_goals rfl
theorem wantedB_congr{g:Option (Nat×Bool)}(h:∀d t,g=some (d,t)->fr d=fr' d):wantedB fr g=wantedB fr' g:=by
 cases g with
 |none=>rfl
 |some dt=>simp only[wantedB,h dt.1 dt.2 rfl]
theorem valB_pure{op:BOp}(h:op.pure=true):valB E fr H op=valB E fr H' op:=by
 cases op<;>simp only[BOp.pure,Bool.false_eq_true]at h<;>first|rfl|skip
 case ln k x=>
  simp only[valB]
  have:∀X,lenL H k X=lenL H' k X:=by
   intro X
   unfold lenL
   split<;>simp_all
  rw[this]
 case sr k sz x l hh=>
  simp only[valB]
  have:∀X,lenL H k X=lenL H' k X:=by
   intro X
   unfold lenL
   split<;>simp_all
  rw[this]
theorem valB_isVal{op:BOp}{v:LV}(h:valB E fr H op=some v):op.isVal=true:=by
 cases op<;>simp only[valB]at h<;>first|rfl|(cases h;done)
theorem effB_isEff{op:BOp}{r:LV×LHeap}(h:effB E fr H op=some r)(hm:∀z n,op≠.ms z n):op.isEff=true:=by
 cases op<;>simp only[effB]at h<;>first|rfl|(cases h;done)|exact absurd rfl (hm _ _)
theorem effR_isEff{op:BOp}{v:LV}{H'':LHeap}(h:effR E fr H op v H'')(hm:∀z n,op≠.ms z n):op.isEff=true:=by
 rcases h with h|h
 ·exact effB_isEff h hm
 ·cases op<;>simp only[effB2]at h<;>first|rfl|(cases h;done)
theorem calleeB_isEff{op:BOp}{r:FuncId×List LV}(h:calleeB E fr op=some r):op.isEff=true:=by
 cases op<;>simp only[calleeB]at h<;>first|rfl|(cases h;done)
end
section
variable(P:Program)(N:Nat)(ops:Array Oper)
inductive Done:List Seen->Prop
 |nil:Done []
 |cons {e:Seen} {rest:List Seen} {o:Oper}:ops[e.i]? = some o->cI P N ops o=some e.b->e.m=maskOf rest (bindsOf o)->stepOk (bindsOf o) rest e=true ->
   (pends rest e).all (pendOk rest)=true->Done rest->Done (e::rest)
end
section
variable{P:Program}{N:Nat}{ops:Array Oper}
theorem Done.tail{e:Seen}{rest:List Seen}(h:Done P N ops (e::rest)):Done P N ops rest:=by cases h;assumption
theorem Done.suffix{l l':List Seen}(h:Done P N ops l)(hs:l' <:+ l):Done P N ops l':=by
 obtain⟨t,rfl⟩:=hs
 induction t with
 |nil=>exact h
 |cons x t ih=>exact ih h.tail
theorem maskOf_bit{rest:List Seen}{k:Nat}:∀{es:List Nat},(maskOf rest es).testBit k=true↔∃j∈es,k=j\/∃t,rest.find? (·.i==j)=some t/\t.m.testBit k=true
 |[]=>by simp[maskOf]
 |j::r=>by
  simp only[maskOf,Nat.testBit_or,Bool.or_eq_true,maskOf_bit (es:=r),List.mem_cons,exists_eq_or_imp]
  have h1:(1 <<< j).testBit k=true↔k=j:=by
   rw[Nat.testBit_shiftLeft]
   by_cases hkj:k=j
   ·subst hkj;simp
   ·simp only[hkj,iff_false,Bool.and_eq_true,decide_eq_true_eq,not_and,Bool.not_eq_true]
    intro hle
    have:k - j≠0:=by omega
    obtain⟨d,hd⟩:=Nat.exists_eq_succ_of_ne_zero this
    rw[hd,Nat.testBit_succ];simp
  have h2:(((rest.find? (fun s:Seen=>s.i==j)).map (fun s:Seen=>s.m)).getD 0).testBit k=true↔∃t,rest.find? (·.i==j)=some t/\t.m.testBit k=true:=by
   cases rest.find? (·.i==j)<;>simp
  rw[h1,h2]
structure StepFacts(P:Program)(N:Nat)(ops:Array Oper)(rest:List Seen)(e:Seen):Prop where
 o:∃o,ops[e.i]? = some o/\cI P N ops o=some e.b/\e.m=maskOf rest (bindsOf o)/\(∀j∈bindsOf o,(∃t∈rest,t.i=j)/\e.m.testBit j=true)
 kind:e.b.op.isVal=true\/e.b.op.isEff=true
 ne:∀s∈rest,s.i≠e.i
 nd:∀s∈rest,∀d,s.b.d=some d->e.b.d≠some d
 use:∀s∈rest,∀d,s.b.d=some d->d∈e.b.uses->e.m.testBit s.i=true
 anti:∀s∈rest,∀d,e.b.d=some d->d∈s.b.uses->e.m.testBit s.i=true
 eff:∀s∈rest,s.b.op.isEff=true->e.fl=true\/e.m.testBit s.i=true
 pend:∀s∈rest,e.b.op.isEff=true->s.b.op.isVal=true->s.b.op.pure=false->e.m.testBit s.i=false ->
  (∃d,s.b.d=some d)/\∀t∈rest,∀d,t.b.d=some d->d∈s.b.uses->s.m.testBit t.i=true
theorem writes_iff{s:Seen}{l:List Nat}:s.writes l=true↔∃d,s.b.d=some d/\d∈l:=by
 unfold Seen.writes
 cases s.b.d<;>simp
theorem Done.facts{e:Seen}{rest:List Seen}(h:Done P N ops (e::rest)):StepFacts P N ops rest e:=by
 cases h with
 |@cons _ _ o ho hc hm hs hp _=>
  simp only[stepOk,Bool.and_eq_true,Bool.or_eq_true,List.all_eq_true,List.any_eq_true,beq_iff_eq,bne_iff_ne,ne_eq,Bool.not_eq_true']at hs
  obtain⟨⟨h1,h2⟩,h3⟩:=hs
  have wr:∀s∈rest,(s.writes e.b.uses=true\/e.writes s.b.uses=true\/(s.b.op.isEff=true/\e.fl=false))->e.m.testBit s.i=true:=by
   intro s hs hw
   rcases (h3 s hs).2 with h|h
   ·rcases hw with hw|hw|⟨hw,hf⟩
    ·simp[hw]at h
    ·simp[hw]at h
    ·simp[hw,hf]at h
   ·exact h
  refine⟨⟨o,ho,hc,hm,fun j hj=>⟨(h2 j hj).1,(h2 j hj).2⟩⟩,h1,fun s hs=>(h3 s hs).1.1,fun s hs d hd he=>?_,fun s hs d hd hu=>wr s hs (.inl (writes_iff.2 ⟨d,hd,hu⟩)),
   fun s hs d hd hu=>wr s hs (.inr (.inl (writes_iff.2 ⟨d,hd,hu⟩))),fun s hs he=>(by cases hf:e.fl with|true=>exact .inl rfl|false=>exact .inr (wr s hs (.inr (.inr ⟨he,hf⟩)))),fun s hs he hv hpu hb=>?_⟩
  ·have:=(h3 s hs).1.2
   simp[sameD,hd,he]at this
  ·have:s∈pends rest e:=by simp[pends,he,hs,hv,hpu,hb]
   have:=List.all_eq_true.1 hp s this
   simp only[pendOk,Bool.and_eq_true,List.all_eq_true,Bool.or_eq_true,Bool.not_eq_true']at this
   refine⟨Option.isSome_iff_exists.1 this.1,fun t ht d hd hu=>?_⟩
   rcases this.2 t ht with h|h
   ·rw[Bool.eq_false_iff]at h;exact absurd (writes_iff.2 ⟨d,hd,hu⟩) h
   ·exact h
theorem suffix_of_mem{α:Type}{x:α}{l:List α}(h:x∈l):∃m,(x::m) <:+ l:=by
 obtain⟨a,b,rfl⟩:=List.append_of_mem h
 exact⟨b,a,rfl⟩
theorem suffix_cons_cases{α:Type}{x e:α}{m l:List α}(h:(x::m) <:+ (e::l)):(x=e/\m=l)\/(x::m) <:+ l:=by
 rw[List.suffix_cons_iff]at h
 rcases h with h|h
 ·simp at h;exact .inl h
 ·exact .inr h
theorem Done.masks{l:List Seen}(h:Done P N ops l):∀(t:Seen)(m:List Seen),(t::m) <:+ l->∀j,t.m.testBit j=true->∃u∈m,u.i=j:=by
 induction l with
 |nil=>intro t m hs;simp at hs
 |cons e rest ih=>
  intro t m hs j hj
  rcases suffix_cons_cases hs with⟨rfl,rfl⟩|hs
  ·obtain⟨o,_,_,hm,hb⟩:=h.facts.o
   rw[hm,maskOf_bit]at hj
   obtain⟨k,hk,hj⟩:=hj
   rcases hj with rfl|⟨u,hf,hj⟩
   ·exact(hb j hk).1
   ·obtain⟨m',hm'⟩:=suffix_of_mem (List.mem_of_find?_eq_some hf)
    obtain⟨v,hv,hi⟩:=ih h.tail u m' hm' j hj
    exact⟨v,hm'.mem (.tail _ hv),hi⟩
  ·exact ih h.tail t m hs j hj
end
end Go.Abs
namespace Go.Abs
open Go
def Ghost.withB(G:Ghost)(B:Nat->Option Bool):Ghost:=⟨B,G.n,G.loc,G.asz,G.tk,G.own,G.rc⟩
section
variable{G G':Ghost}{w w':World}{H:LHeap}{B:Nat->Option Bool}
theorem VR.withB(hB:∀k,G.B k=some true->B k=some true){x:LV}{v:Value}(h:VR G w x v):VR (G.withB B) w x v:=by
 have hc:∀b y,G.Cl b y->(G.withB B).Cl b y:=fun b y h=>h.elim (fun h=>.inl (hB b h)) .inr
 have hw:∀{own:Own}{base:Option Addr}{l c:Nat},OwnR G own base l c->OwnR (G.withB B) own base l c:=fun h=>h
 induction h with
 |sc v=>exact .sc v
 |bot v=>exact .bot v
 |agg hs _ h1 ih=>exact .agg hs ih h1
 |tup hs _ ih=>exact .tup hs ih
 |sl h1 hz hx _ ho ih=>exact .sl h1 hz (fun i e j c a b=>⟨hc _ _ (hx i e j c a b).1,(hx i e j c a b).2⟩) ih (hw ho)
 |sln ho=>exact .sln (hw ho)
 |sle a=>exact .sle a
 |asl ho hl hcap=>exact .asl (G:=G.withB B) ho hl hcap
 |ptr ho=>exact .ptr (G:=G.withB B) ho
 |cptr hx _ ih=>exact .cptr (fun j c a=>⟨hc _ _ (hx j c a).1,(hx j c a).2⟩) ih
 |map ho=>exact .map (G:=G.withB B) ho
 |fn hf h1 h2 _ _ ih1 ih2=>exact .fn (G:=G.withB B) hf h1 h2 ih1 ih2
 |iface _ ih=>exact .iface ih
theorem ObjR.on{o:Nat}{x:LObj}(h0:ObjR G w H o x)(h:ObjR G w' H o x)(hB:∀k,G.B k=some true->B k=some true)
  (hd:∀k,k<w.heap.size->¬(G.B k).isSome->¬(B k).isSome) (hg:∀k,(∃x,G.own k x=.obj o)->k<w.heap.size):ObjR (G.withB B) w' H o x:=by
 have hlt:∀{k:Nat}{ob:Obj},w.heap[k]? = some ob->k<w.heap.size:=fun h=>(Array.getElem?_eq_some_iff.1 h).1
 have mapc:∀es es':List (LV×LV),MapR G w o es->MapR G w' o es'->MapR (G.withB B) w' o es':=by
  rintro es es' ⟨_,_,g1,_⟩ ⟨ents,clock,h1,h2,h3,h4,h5,h6⟩
  exact⟨ents,clock,h1,hd _ (hlt g1) h2,h3,h4,fun i kv e hi he=>⟨(h5 i kv e hi he).1.withB hB,(h5 i kv e hi he).2.withB hB⟩,h6⟩
 cases x with
 |cells cs=>
  obtain⟨_,_,_,g1,_⟩:=h0
  obtain⟨vs,el,fz,h1,h2,h3,h4,h5,h6⟩:=h
  exact⟨vs,el,fz,h1,hd _ (hlt g1) h2,h3,h4,h5,fun i c hc=>⟨(h6 i c hc).1.withB hB,(h6 i c hc).2⟩⟩
 |arr sz cs=>
  obtain⟨_,_,_,g1,_⟩:=h0
  obtain⟨vs,el,fz,h1,h2,h3,h3',h4,h5,h6⟩:=h
  exact⟨vs,el,fz,h1,hd _ (hlt g1) h2,h3,h3',h4,h5,fun i c hc=>⟨(h6 i c hc).1.withB hB,(h6 i c hc).2⟩⟩
 |map es=>exact mapc es es h0 h
 |um es=>
  obtain⟨es0,_,h0⟩:=h0
  obtain⟨es1,hp1,h1⟩:=h
  exact⟨es1,hp1,mapc es0 es1 h0 h1⟩
 |iter m left cur n=>
  obtain⟨g1,g2,g3⟩:=h0
  obtain⟨h1,h2,h3⟩:=h
  refine⟨hd _ ?_ h1,h2,h3⟩
  split at g3
  ·obtain⟨_,_,_,si,se,st,hs⟩:=g3;exact hlt hs
  ·obtain⟨seen,stepped,hs,_⟩:=g3;exact hlt hs
 |rcd busy fo ps k=>
  obtain⟨_,_,_,g1,_⟩:=h0
  obtain⟨fn,tmps,df,h1,h2,h3,h4,h5⟩:=h
  exact⟨fn,tmps,df,h1,hd _ (hlt g1) h2,h3,h4,fun i x hi=>(h5 i x hi).withB hB⟩
 |dfr=>
  obtain⟨g1,_⟩:=h0
  obtain⟨h1,h2,h3⟩:=h
  exact⟨h1,hd _ (hlt g1) h2,h3⟩
 |lft j=>
  obtain⟨⟨_,g1,_⟩,_⟩:=h0
  obtain⟨h1,h2,h3⟩:=h
  exact⟨h1,hd _ (hlt g1) h2,h3⟩
 |bld tb te l=>
  obtain⟨p0,v0,g1,_,_,_,g5⟩:=h0
  obtain⟨p,v,h1,h2,h3,h4,h5⟩:=h
  refine⟨p,v,h1,hd _ (hlt g1) h2,h3,h4,?_⟩
  rcases h5 with h5|⟨g,cap,cur,q1,q2,q3,q4,q5,q6⟩
  ·exact .inl h5
  ·exact .inr ⟨g,cap,cur,q1,q2,q3,hd g (hg g ⟨0,q5 0⟩) q4,q5,q6⟩
 |tok n sz=>
  obtain⟨base0,cap0,g1,g2,g3⟩:=h0
  obtain⟨base,cap,h1,h2,h3⟩:=h
  rw[g1]at h1
  cases h1
  refine⟨base0,cap0,g1,h2,fun hz0 hlt'=>?_⟩
  obtain⟨b,off,vs,el,fz,q1,q2,q3,q4,q5,q6⟩:=h3 hz0 hlt'
  obtain⟨b',off',vs',el',fz',p1,p2,_⟩:=g3 hz0 hlt'
  rw[q1]at p1
  cases p1
  exact⟨b,off,vs,el,fz,q1,q2,q3,hd _ (hlt p2) q4,q5,q6⟩
theorem Inv.off(hI:Inv G w H)(h1:∀k,(B k).isSome->(G.B k).isSome)(h2:∀k,G.B k=some true->B k=some true):Inv (G.withB B) w H where
 n:=hI.n
 hB b hb:=hI.hB b (h1 b hb)
 free:=hI.free
 old b x hb:=hI.old b x (h1 b hb)
 objs o x ho:=⟨(hI.objs o x ho).1,(hI.objs o x ho).2.on (hI.objs o x ho).2 h2 (fun k _ hn hs=>hn (h1 k hs)) fun k ⟨x,hx⟩=>own_lt hI hx (by simp)⟩
theorem Ext.withB(h:Ext G w G' w')(h1:∀k,(B k).isSome->(G.B k).isSome):Ext (G.withB B) w (G'.withB B) w':=
 ⟨h.os,h.tape,h.output,h.size,rfl,fun k hk=>h.block k (h1 k hk),h.n,h.loc,h.asz,h.cl,h.tk,h.rc⟩
theorem Inv.alloced(hI:Inv G w H)(ob:Obj):Ext G w G (w.alloc ob)/\Inv G (w.alloc ob) H:=by
 have hG:Grow G w.heap.size G:=⟨rfl,Nat.le_refl _,fun _ _=>rfl,fun _ _=>rfl,fun _ _=>rfl,fun _ _ _=>rfl,rfl⟩
 refine⟨hI.ext_fresh ob hG,hI.fresh ob hG hI.n (fun _ _=>rfl) fun i x hi hl=>?_⟩
 have:=(hI.objs i x hl).1
 omega
def Ghost.aside(G:Ghost)(b:Nat):Ghost:=G.withB fun k=>if k=b then some false else G.B k
theorem Inv.aside(hI:Inv G w H)(ob:Obj):Inv (G.aside w.heap.size) (w.alloc ob) H:=by
 obtain⟨hx,hI'⟩:=hI.alloced ob
 have ht:∀k,G.B k=some true->(if k=w.heap.size then some false else G.B k)=some true:=by
  intro k hk
  rw[if_neg]
  ·exact hk
  ·rintro rfl
   exact hI.hB' (by rw[hk];rfl)
 refine⟨hI'.n,fun b hb=>?_,hI'.free,fun b x hb=>?_,fun o x ho=>⟨(hI'.objs o x ho).1,ObjR.on (hI.objs o x ho).2 (hI'.objs o x ho).2 ht (fun k hk hn=>?_) fun k ⟨x,hx⟩=>own_lt hI hx (by simp)⟩⟩
 ·by_cases h:b=w.heap.size
  ·subst h;simp
  ·simp only[Ghost.aside,Ghost.withB,if_neg h]at hb
   exact hI'.hB b hb
 ·by_cases h:b=w.heap.size
  ·subst h
   exact hI.free _ x (Nat.le_refl _)
  ·simp only[Ghost.aside,Ghost.withB,if_neg h]at hb
   exact hI.old b x hb
 ·rw[if_neg (by omega)];exact hn
theorem VR.aside{b:Nat}(hI:Inv G w H)(hb:w.heap.size<=b){w':World}{x:LV}{v:Value}(h:VR G w' x v):VR (G.aside b) w' x v:=by
 refine h.withB fun k hk=>?_
 rw[if_neg]
 ·exact hk
 ·rintro rfl
  have:=hI.hB k (by rw[hk];rfl)
  omega
def Aside(G:Ghost)(w:World)(b:Nat)(zs:List LV):Prop:=G.B b=some false/\∃(vs:Array Value)(t:TypeId),w.heap[b]? = some (.cells vs t)/\∀(G':Ghost)(w':World),AR G' w' zs vs
theorem Aside.mono{b:Nat}{zs:List LV}(h:Aside G w b zs)(hx:Ext G w G' w'):Aside G' w' b zs:=by
 obtain⟨h1,vs,t,h2,h3⟩:=h
 exact⟨by rw[hx.hB];exact h1,vs,t,by rw[hx.block b (by rw[h1];rfl)];exact h2,h3⟩
theorem zero_any{P:Program}{t:TypeId}{zs:List LV}(h:zeroO P t=some zs):∃v,∀(G:Ghost)(w:World),(zeroValue t).run P w=.ok v w/\AR G w zs v.cells:=by
 unfold zeroO at h
 split at h
 ·rename_i i hi
  split at h
  ·rename_i v hz
   split at h
   ·rename_i zs' hm
    split at h
    ·rename_i hlen
     simp at h;subst h
     obtain⟨h1,h2⟩:=mapM_ofConst hm
     refine⟨v,fun G w=>⟨by simp[zeroValue,Sem.run_bind,run_info hi,hz],⟨by simpa using h1.symm,fun j c hc=>?_⟩⟩⟩
     obtain⟨u,hu,hc'⟩:=h2 j c hc
     rw[Array.getElem?_toList]at hu
     rw[getD_eq hu]
     exact⟨ofConst_VR hc',ofConst_one hc'⟩
    ·simp at h
   ·simp at h
  ·simp at h
 ·simp at h
theorem al_early{P:Program}(G:Ghost)(w:World){ρ:Operand->Value}{o:Oper}{t:TypeId}{zs:List LV}(ho:o.op=.alloc t)(hz:zeroO P t=some zs):
  ∃ob:Obj,Yields P ρ o w (.pointer (some (at_ w.heap.size 0))) (w.alloc ob)/\Aside (G.aside w.heap.size) (w.alloc ob) w.heap.size zs:=by
 obtain⟨v,hv⟩:=zero_any hz
 refine⟨.cells v.cells t,.inl ?_,by simp[Ghost.aside,Ghost.withB],v.cells,t,heap_alloc_new,fun G' w'=>(hv G' w').2⟩
 simp[execOp,ho,Instr.alloc,Sem.run_bind,(hv G w).1,newVar,newRow]
def Ghost.adopt(G:Ghost)(id b:Nat):Ghost:=(G.withB fun k=>if k=b then none else G.B k).add id b (0,0)
theorem adopt_loc(G:Ghost)(id b:Nat):(G.adopt id b).loc id=b:=Ghost.add_loc _ _ _ _
theorem adopt_own(G:Ghost)(id b x:Nat):(G.adopt id b).own b x=.obj id:=Ghost.add_own _ _ _ _ _
theorem adopt{b:Nat}{zs:List LV}(hI:Inv G w H)(hb:Aside G w b zs):Inv (G.adopt H.next b) w (H.alloc (.cells zs))/\(∀x v,VR G w x v->VR (G.adopt H.next b) w x v) /\
  VR (G.adopt H.next b) w (.ptr H.next 0) (.pointer (some (at_ b 0))) /\
  ∀B0:Nat->Option Bool,(∀k,(B0 k).isSome->(G.B k).isSome)->B0 b=none->Ext (G.withB B0) w ((G.adopt H.next b).withB B0) w:=by
 obtain⟨h1,vs,t,h2,h3⟩:=hb
 have hfree:∀x,G.own b x=.free:=fun x=>hI.old b x (by rw[h1];rfl)
 have hext:∀B:Nat->Option Bool,Ext (G.withB B) w ((G.withB B).add H.next b (0,0)) w:=fun B=>by
  have hn:=hI.n
  refine⟨rfl,rfl,rfl,Nat.le_refl _,rfl,fun _ _=>rfl,by simp[Ghost.add,Ghost.withB];omega,fun o ho=>?_,fun o ho=>?_,fun k x hc=>⟨?_,fun _ h=>h⟩,fun u hu m bb c h=>⟨m,bb,c,?_,Nat.le_refl _,fun _=>⟨rfl,rfl⟩⟩,rfl⟩
  ·have ho':o<G.n:=ho
   simp only[Ghost.add];rw[if_neg (by omega)]
  ·have ho':o<G.n:=ho
   simp only[Ghost.add];rw[if_neg (by omega)]
  ·have hc':G.own k x=.cl:=hc
   simp only[Ghost.add]
   rw[if_neg]
   ·exact hc
   ·rintro rfl
    rw[hfree]at hc';cases hc'
  ·have hu':u<G.n:=hu
   simp only[Ghost.add];rw[if_neg (by omega)];exact h
 have ht:∀k,G.B k=some true->(if k=b then none else G.B k)=some true:=by
  intro k hk
  rw[if_neg]
  ·exact hk
  ·rintro rfl
   rw[h1]at hk;cases hk
 have hI1:Inv (G.withB fun k=>if k=b then none else G.B k) w H:=hI.off (fun k hk=>by split at hk<;>simp_all) ht
 have hx:=hext fun k=>if k=b then none else G.B k
 have hn:=hI.n
 refine⟨?_,fun x v hv=>(hv.withB ht).mono hx,?_,fun B0 hB0 hb0=>?_⟩
 ·refine Inv.step (W:=fun _ _=>False) (V:=fun _=>False) (fun i=>i=H.next) hI1 hx ⟨fun k vs el fz h=>⟨vs,h,rfl,fun _ _=>rfl⟩,fun k ob h _ _=>h⟩ (Nat.le_refl _) (fun k x hk=>?_) (fun k x hk=>?_)
   (fun i x hi hl=>by rwa [look_alloc_old hi]at hl) (fun _ _ _ _ _ h=>h) (fun _ _ _ h=>h) (fun i k x hi=>⟨fun h=>?_,fun h=>?_⟩) (fun i hi hne=>by show (if i=H.next then none else G.tk i)=_;rw[if_neg hne];rfl) ?_ ?_
  ·have hbl:b<w.heap.size:=(Array.getElem?_eq_some_iff.1 h2).1
   show (if k=b then Lab.obj H.next else G.own k x)=.free
   rw[if_neg (by omega)];exact hI.free k x hk
  ·show (if k=b then Lab.obj H.next else G.own k x)=.free
   have hk':((if k=b then none else G.B k):Option Bool).isSome=true:=hk
   by_cases hkb:k=b
   ·rw[if_pos hkb]at hk';cases hk'
   ·rw[if_neg hkb]at hk' ⊢;exact hI.old k x hk'
  ·show (if k=b then Lab.obj H.next else G.own k x)=_
   have h':G.own k x=.obj i:=h
   rw[if_neg]
   ·exact h'
   ·rintro rfl;rw[hfree]at h';cases h'
  ·show (if k=b then Lab.obj H.next else G.own k x)=_
   have h':G.own k x=.tok i:=h
   rw[if_neg]
   ·exact h'
   ·rintro rfl;rw[hfree]at h';cases h'
  ·intro m es' hm he'
   have hm':m<G.n:=hm
   rw[look_alloc_old (by omega)]at he'
   exact⟨es',he',Nat.le_refl _,fun _ ents' clock' hh=>⟨ents',clock',hh,rfl,fun _=>rfl⟩⟩
  ·rintro i x rfl hl
   rw[look_alloc_new]at hl
   cases hl
   refine⟨Nat.lt_succ_self _,vs,t,(0,0),by rw[adopt_loc];exact h2,?_,(h3 G w).1,fun x=>by rw[adopt_loc];exact adopt_own _ _ _ _,fun x=>?_,fun i c hc=>(h3 _ _).2 i c hc⟩
   ·rw[adopt_loc]
    show ¬((if b=b then none else G.B b:Option Bool)).isSome=true
    simp
   ·rw[adopt_loc]
    unfold World.frozen?
    rw[h2]
    simp
 ·have h:=VR.ptr (G:=G.adopt H.next b) (w:=w) (o:=H.next) (off:=0) (by simp[Ghost.adopt,Ghost.add])
  simpa [Ghost.adopt,Ghost.add] using h
 ·have:=hext B0
  exact this
end
end Go.Abs
