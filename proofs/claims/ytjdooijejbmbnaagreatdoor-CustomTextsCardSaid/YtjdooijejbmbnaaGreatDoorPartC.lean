/- Part of the proof that for every row of clauses, every atom and every source the law CustomTexts returns true. Conditions: none. -/
import Derived.Test.YtjdooijejbmbnaaGreatDoorPartB
import Derived.RangeFuncRecord
set_option linter.unusedVariables false
set_option linter.unusedSimpArgs false
set_option linter.unusedSectionVars false
namespace Go.Abs
open Go
def full(fr0:Fr)(x:Nat->LV):List Seen->Fr
 |[]=>fr0
 |s::r=>putD (full fr0 x r) s.b.d (x s.i)
theorem full_spec{fr0:Fr}{x:Nat->LV}(u:Nat):∀l:List Seen,(∃t m,(t::m) <:+ l/\t.b.d=some u/\full fr0 x l u=x t.i)\/((∀t∈l,t.b.d≠some u)/\full fr0 x l u=fr0 u)
 |[]=>.inr ⟨fun _ h=>(List.not_mem_nil h).elim,rfl⟩
 |e::r=>by
  by_cases he:e.b.d=some u
  ·exact .inl ⟨e,r,List.suffix_refl _,he,by simp[full,he,putD,upd]⟩
  ·have h1:full fr0 x (e::r) u=full fr0 x r u:=by
    cases hd:e.b.d with
    |none=>simp[full,hd,putD]
    |some d=>
     have:u≠d:=fun hh=>he (by rw[hd,hh])
     simp[full,hd,putD,upd,this]
   rcases full_spec (fr0:=fr0) (x:=x) u r with⟨t,m,h2,h3,h4⟩|⟨h2,h3⟩
   ·exact .inl ⟨t,m,h2.trans (List.suffix_cons _ _),h3,h1.trans h4⟩
   ·refine .inr ⟨fun t ht=>?_,h1.trans h3⟩
    rcases List.mem_cons.1 ht with rfl|ht
    ·exact he
    ·exact h2 t ht
theorem full_congr{fr0:Fr}{x x':Nat->LV}:∀l:List Seen,(∀s∈l,x s.i=x' s.i)->full fr0 x l=full fr0 x' l
 |[],_=>rfl
 |e::r,h=>by simp only[full,full_congr r fun s hs=>h s (.tail _ hs),h e (.head _)]
def LawOk(E:Env)(fr:Fr)(H:LHeap)(s:Seen)(v:LV):Prop:=
 (wantedB fr s.b.g=some true/\valB E fr H s.b.op=some v)\/(wantedB fr s.b.g=some false/\v=.tup [])
inductive Path (P:Program) (N:Nat) (ops:Array Oper):List Seen->List (BI×List BI)->List Seen->Prop
 |nil {done:List Seen}:done.length=ops.size->Path P N ops done [] done
 |cons {e:Seen} {done all:List Seen} {l:List (BI×List BI)}:Done P N ops (e::done)->Path P N ops (e::done) l all->Path P N ops done ((e.b,(pends done e).map (·.b))::l) all
structure DBase(P:Program)(N:Nat)(ops:Array Oper)(done all:List Seen)(x:Nat->LV)(fr0:Fr)(listed:Array Bool)(ea:Nat->Option Nat)(B0:Nat->Option Bool)(G:Ghost)(w:World)(a:Act):Prop where
 da:Done P N ops all
 suf:done <:+ all
 len:all.length=ops.size
 sz:listed.size=ops.size
 tsz:a.tmps.size=N
 sub:∀i,listed.getD i false=true->(∃s∈done,s.i=i)\/(ea i).isSome
 closed:∀s m,(s::m) <:+ done->listed.getD s.i false=true->∀j,s.m.testBit j=true->listed.getD j false=true
 slots:∀s∈done,listed.getD s.i false=true->∀u,s.b.d=some u->VR G w (x s.i) (a.tmps.getD u undef)
 free:∀u,(∀s∈done,listed.getD s.i false=true->s.b.d≠some u)->(∀t∈all,(ea t.i).isSome->t.b.d≠some u)->VR G w (fr0 u) (a.tmps.getD u undef)
 early:∀i b,ea i=some b->listed.getD i false=true/\(∀s∈done,s.i≠i)/\(∃t∈all,t.i=i)/\∀t∈all,t.i=i->t.fl=true/\∃d z,t.b=⟨some d,none,.al z⟩/\a.tmps.getD d undef=.pointer (some (at_ b 0))/\Aside G w b z
 inj:∀i j b,ea i=some b->ea j=some b->i=j
 b0:∀k,(B0 k).isSome->G.B k=B0 k
 b1:∀k,G.B k=some true->B0 k=some true
 b2:∀k,G.B k=some false->B0 k=some false\/∃i,ea i=some k
 b3:∀i b,ea i=some b->B0 b=none
def Laws(E:Env)(done:List Seen)(x:Nat->LV)(fr0:Fr)(listed:Array Bool)(H:LHeap):Prop:=
 ∀s m,(s::m) <:+ done->listed.getD s.i false=false->LawOk E (full fr0 x m) H s (x s.i)
theorem Done.lt{P:Program}{N:Nat}{ops:Array Oper}{l:List Seen}(h:Done P N ops l){s:Seen}(hs:s∈l):s.i<ops.size:=by
 obtain⟨m,hm⟩:=suffix_of_mem hs
 obtain⟨o,ho,_⟩:=(h.suffix hm).facts.o
 exact(Array.getElem?_eq_some_iff.1 ho).1
theorem Done.inj{P:Program}{N:Nat}{ops:Array Oper}{l:List Seen}(h:Done P N ops l){s t:Seen}(hs:s∈l)(ht:t∈l)(he:s.i=t.i):s=t:=by
 induction l with
 |nil=>cases hs
 |cons e r ih=>
  rcases List.mem_cons.1 hs with h1|h1<;>rcases List.mem_cons.1 ht with h2|h2
  ·rw[h1,h2]
  ·exact absurd (h1▸he).symm (h.facts.ne t h2)
  ·exact absurd (h2▸he) (h.facts.ne s h1)
  ·exact ih h.tail h1 h2
theorem Done.injd{P:Program}{N:Nat}{ops:Array Oper}{l:List Seen}(h:Done P N ops l){s t:Seen}{d:Nat}(hs:s∈l)(ht:t∈l)(h1:s.b.d=some d)(h2:t.b.d=some d):s=t:=by
 induction l with
 |nil=>cases hs
 |cons e r ih=>
  rcases List.mem_cons.1 hs with k1|k1<;>rcases List.mem_cons.1 ht with k2|k2
  ·rw[k1,k2]
  ·exact absurd (k1▸h1) (h.facts.nd t k2 d h2)
  ·exact absurd (k2▸h2) (h.facts.nd s k1 d h1)
  ·exact ih h.tail k1 k2
theorem suffix_behind{α:Type}{t:α}{m l l':List α}(h1:(t::m) <:+ l)(h2:l' <:+ l)(hn:t∉l'):l' <:+ m:=by
 rcases List.suffix_or_suffix_of_suffix h1 h2 with h|h
 ·exact absurd (h.mem (.head _)) hn
 ·rw[List.suffix_cons_iff]at h
  rcases h with rfl|h
  ·exact absurd (List.mem_cons_self) hn
  ·exact h
theorem Seen.fl_m{t:Seen}(h:t.fl=true)(j:Nat):t.m.testBit j=false:=by
 simp only[Seen.fl,Bool.and_eq_true,beq_iff_eq]at h
 rw[h.1];simp
theorem Done.behind_fl{P:Program}{N:Nat}{ops:Array Oper}{all l:List Seen}(h:Done P N ops all){t:Seen}(ht:t∈all)(hf:t.fl=true)(hl:l <:+ all)(hn:∀s∈l,s.i≠t.i){s:Seen}(hs:s∈l):
  (∀d,t.b.d=some d->d∉s.b.uses)/\∀d,t.b.d=some d->s.b.d≠some d:=by
 obtain⟨m,hm⟩:=suffix_of_mem ht
 have hb:=suffix_behind hm hl fun hin=>hn t hin rfl
 have hd:=h.suffix hm
 refine⟨fun d hd1 hu=>?_,fun d hd1 hd2=>?_⟩
 ·have:=hd.facts.anti s (hb.mem hs) d hd1 hu
  rw[Seen.fl_m hf]at this;cases this
 ·exact hd.facts.nd s (hb.mem hs) d hd2 hd1
section
variable{P:Program}{N:Nat}{ops:Array Oper}{E:Env}{done all:List Seen}{x:Nat->LV}{fr0:Fr}{listed:Array Bool}{ea:Nat->Option Nat}{B0:Nat->Option Bool}{G G':Ghost}{w w':World}{a:Act}{H:LHeap}
theorem DBase.dn(D:DBase P N ops done all x fr0 listed ea B0 G w a):Done P N ops done:=D.da.suffix D.suf
theorem DBase.mono(D:DBase P N ops done all x fr0 listed ea B0 G w a)(h:Ext G w G' w'):DBase P N ops done all x fr0 listed ea B0 G' w' a:=
 { D with
  slots:=fun s hs hl u hu=>(D.slots s hs hl u hu).mono h
  free:=fun u hu hu2=>(D.free u hu hu2).mono h
  early:=fun i b hb=>by
   obtain⟨h1,h2,h3,h4⟩:=D.early i b hb
   refine⟨h1,h2,h3,fun t ht hi=>?_⟩
   obtain⟨k1,d,z,k2,k3,k4⟩:=h4 t ht hi
   exact⟨k1,d,z,k2,k3,k4.mono h⟩
  b0:=fun k hk=>by rw[h.hB];exact D.b0 k hk
  b1:=fun k hk=>D.b1 k (by rw[<-h.hB];exact hk)
  b2:=fun k hk=>D.b2 k (by rw[<-h.hB];exact hk) }
theorem DBase.le(D:DBase P N ops done all x fr0 listed ea B0 G w a):∀k,(B0 k).isSome->(G.B k).isSome:=fun k hk=>by rw[D.b0 k hk];exact hk
theorem CodePost.fromB{G G₁:Ghost}{w w₁:World}{N:Nat}{ds:List Deferred}{S:Res->Prop}{e:Exit}{a':Act}{w':World}{B:Nat->Option Bool}(hE:Ext G w G₁ w₁)(hB:∀k,(B k).isSome->(G.B k).isSome)(h:CodePost (G₁.withB B) w₁ N ds S e a' w'):
  CodePost (G.withB B) w N ds S e a' w':=.from (hE.withB hB) h
theorem x_other{e:Seen}(hd:Done P N ops (e::done))(v:LV):∀s∈done,(fun i=>if i=e.i then v else x i) s.i=x s.i:=by
 intro s hs
 simp[hd.facts.ne s hs]
theorem DBase.unlisted(D:DBase P N ops done all x fr0 listed ea B0 G w a){e:Seen}(hd:Done P N ops (e::done))(hea:ea e.i=none):listed.getD e.i false=false:=by
 cases h:listed.getD e.i false with
 |false=>rfl
 |true=>
  rcases D.sub _ h with⟨s,hs,hi⟩|hi
  ·exact absurd hi (hd.facts.ne s hs)
  ·rw[hea]at hi;cases hi
theorem DBase.add(D:DBase P N ops done all x fr0 listed ea B0 G w a){e:Seen}(hsuf:(e::done) <:+ all)(hea:ea e.i=none)(v:LV):
  DBase P N ops (e::done) all (fun i=>if i=e.i then v else x i) fr0 listed ea B0 G w a:=
 have hd:=D.da.suffix hsuf
 { D with
  suf:=hsuf
  sub:=fun i hi=>by
   rcases D.sub i hi with⟨s,hs,h⟩|h
   ·exact .inl ⟨s,.tail _ hs,h⟩
   ·exact .inr h
  closed:=fun s m hs hl=>by
   rcases suffix_cons_cases hs with⟨rfl,rfl⟩|hs
   ·rw[D.unlisted hd hea]at hl;cases hl
   ·exact D.closed s m hs hl
  slots:=fun s hs hl u hu=>by
   rcases List.mem_cons.1 hs with rfl|hs
   ·rw[D.unlisted hd hea]at hl;cases hl
   ·have:=D.slots s hs hl u hu
    simpa [hd.facts.ne s hs] using this
  free:=fun u hu=>D.free u fun s hs=>hu s (.tail _ hs)
  early:=fun i b hb=>by
   obtain⟨h1,h2,h3⟩:=D.early i b hb
   refine⟨h1,fun s hs=>?_,h3⟩
   rcases List.mem_cons.1 hs with rfl|hs
   ·rintro rfl;rw[hea]at hb;cases hb
   ·exact h2 s hs }
theorem Laws.add(L:Laws E done x fr0 listed H){e:Seen}(hd:Done P N ops (e::done)){v:LV}(hl:listed.getD e.i false=false->LawOk E (full fr0 x done) H e v):
  Laws E (e::done) (fun i=>if i=e.i then v else x i) fr0 listed H:=by
 intro s m hs hun
 rcases suffix_cons_cases hs with⟨rfl,rfl⟩|hs
 ·rw[<-full_congr (x:=x) m fun t ht=>(x_other hd v t ht).symm]
  simpa using hl hun
 ·have hm:∀t∈m,x t.i=(fun i=>if i=e.i then v else x i) t.i:=fun t ht=>(x_other hd v t (hs.mem (.tail _ ht))).symm
  rw[<-full_congr (x:=x) m hm,x_other hd v s (hs.mem (.head _))]
  exact L s m hs hun
theorem listed_set{i j:Nat}(hi:i<listed.size):(listed.setIfInBounds i true).getD j false=if i=j then true else listed.getD j false:=by
 by_cases h:i=j
 ·subst h;simp[hi]
 ·rw[getD_set_ne false h,if_neg h]
theorem Laws.list{s:Seen}(L:Laws E done x fr0 listed H)(hsz:s.i<listed.size):Laws E done x fr0 (listed.setIfInBounds s.i true) H:=by
 intro t m ht hun
 rw[listed_set hsz]at hun
 split at hun
 ·cases hun
 ·exact L t m ht hun
theorem put_getD{v:Value}{d:Option Nat}{u:Nat}:(a.put d v).tmps.getD u undef=if d=some u/\u<a.tmps.size then v else a.tmps.getD u undef:=by
 cases d with
 |none=>simp[Act.put]
 |some d=>
  by_cases h:d=u
  ·subst h
   by_cases hlt:d<a.tmps.size
   ·simp[Act.put,hlt]
   ·simp[Act.put,hlt]
  ·simp[Act.put,h,Array.getElem?_setIfInBounds_ne h]
theorem Done.dlt{l:List Seen}(h:Done P N ops l){s:Seen}(hs:s∈l){d:Nat}(hd:s.b.d=some d):d<N:=by
 obtain⟨m,hm⟩:=suffix_of_mem hs
 obtain⟨o,ho,hc,_⟩:=(h.suffix hm).facts.o
 obtain⟨_,h2,h3,_⟩:=cI_inv hc
 rw[<-h2,hd]at h3
 simpa using h3
theorem DBase.list(D:DBase P N ops done all x fr0 listed ea B0 G w a){s:Seen}(hs:s∈done)(hmask:∀j,s.m.testBit j=true->listed.getD j false=true){v:Value}(hv:VR G w (x s.i) v):
  DBase P N ops done all x fr0 (listed.setIfInBounds s.i true) ea B0 G w (a.put s.b.d v):=by
 have hsz:s.i<listed.size:=by rw[D.sz];exact D.dn.lt hs
 refine { D with sz:=by simp[D.sz],tsz:=?_,sub:=fun i hi=>?_,closed:=fun t m ht hl j hj=>?_,slots:=fun t ht hl u hu=>?_,free:=fun u hu hu2=>?_,early:=fun i b hb=>?_ }
 ·cases hd:s.b.d<;>simp[Act.put,D.tsz]
 ·rw[listed_set hsz]at hi
  split at hi
  ·exact .inl ⟨s,hs,by assumption⟩
  ·exact D.sub i hi
 ·rw[listed_set hsz]at hl ⊢
  split
  ·rfl
  ·split at hl
   ·rename_i he
    have:=D.dn.inj hs (ht.mem (.head _)) he
    subst this
    exact hmask j hj
   ·exact D.closed t m ht hl j hj
 ·rw[listed_set hsz]at hl
  rw[put_getD]
  split
  ·rename_i h
   have:=D.dn.injd hs ht h.1 hu
   subst this;exact hv
  ·rename_i h
   split at hl
   ·rename_i he
    have:=D.dn.inj hs ht he
    subst this
    exact absurd ⟨hu,by rw[D.tsz];exact D.dn.dlt hs hu⟩ h
   ·exact D.slots t ht hl u hu
 ·rw[put_getD,if_neg]
  ·exact D.free u (fun t ht hl=>hu t ht (by rw[listed_set hsz];split<;>simp_all)) hu2
  ·rintro⟨h1,_⟩
   exact hu s hs (by rw[listed_set hsz,if_pos rfl]) h1
 ·obtain⟨h1,h2,h3,h4⟩:=D.early i b hb
  refine⟨by rw[listed_set hsz];split<;>simp_all,h2,h3,fun t ht hi=>?_⟩
  obtain⟨k1,d,z,k2,k3,k4⟩:=h4 t ht hi
  refine⟨k1,d,z,k2,?_,k4⟩
  rw[put_getD,if_neg]
  ·exact k3
  ·rintro⟨h,_⟩
   exact(D.da.behind_fl ht k1 D.suf (fun s hs=>hi▸h2 s hs) hs).2 d (by rw[k2]) h
def Stands(done rest:List Seen)(s:Seen):Prop:=rest <:+ done/\∀t∈done,t∈rest\/t=s\/∃m,(t::m) <:+ done/\s∈m
theorem Stands.new(s:Seen):Stands done done s:=⟨List.suffix_refl _,fun _ ht=>.inl ht⟩
theorem Stands.old{rest:List Seen}{s:Seen}(h:(s::rest) <:+ done):Stands done rest s:=by
 refine⟨(List.suffix_cons _ _).trans h,fun t ht=>?_⟩
 obtain⟨p,rfl⟩:=h
 rcases List.mem_append.1 ht with ht|ht
 ·obtain⟨p1,p2,rfl⟩:=List.append_of_mem ht
  exact .inr (.inr ⟨p2++s::rest,⟨p1,by simp⟩,by simp⟩)
 ·rcases List.mem_cons.1 ht with rfl|ht
  ·exact .inr (.inl rfl)
  ·exact .inl ht
theorem DBase.mask(D:DBase P N ops done all x fr0 listed ea B0 G w a){s:Seen}{rest:List Seen}(hd:Done P N ops (s::rest))(hst:Stands done rest s)
  (hr:s.i∈Region.ready .any ops listed):∀j,s.m.testBit j=true->listed.getD j false=true:=by
 intro j hj
 obtain⟨o,ho,hc,hm,hb⟩:=hd.facts.o
 rw[mem_ready]at hr
 obtain⟨_,o',ho',hr⟩:=hr
 obtain rfl:o=o':=by rw[ho]at ho';exact Option.some.inj ho'
 have hedge:∀k∈bindsOf o,listed.getD k false=true:=by
  intro k hk
  simp only[bindsOf,List.mem_map,List.mem_filter]at hk
  obtain⟨e,⟨he,hbi⟩,rfl⟩:=hk
  exact hr e (by simpa using he) hbi
 rw[hm,maskOf_bit]at hj
 obtain⟨k,hk,hj⟩:=hj
 rcases hj with rfl|⟨t,hf,hj⟩
 ·exact hedge j hk
 ·have htm:=List.mem_of_find?_eq_some hf
  have hti:t.i=k:=by simpa using List.find?_some hf
  obtain⟨m,hmm⟩:=suffix_of_mem htm
  exact D.closed t m (hmm.trans hst.1) (hti▸hedge k hk) j hj
theorem DBase.looks(D:DBase P N ops done all x fr0 listed ea B0 G w a){s:Seen}{rest:List Seen}(hd:Done P N ops (s::rest))(hst:Stands done rest s)(hin:s∈done\/((s::done) <:+ all))
  (hr:s.i∈Region.ready .any ops listed) (hun:listed.getD s.i false=false):∀u∈s.b.uses,VR G w (full fr0 x rest u) (a.tmps.getD u undef):=by
 intro u hu
 have hmask:=D.mask hd hst hr
 rcases full_spec (fr0:=fr0) (x:=x) u rest with⟨t,m,h1,h2,h3⟩|⟨h1,h2⟩
 ·have htr:t∈rest:=h1.mem (.head _)
  rw[h3]
  exact D.slots t (hst.1.mem htr) (hmask _ (hd.facts.use t htr u h2 hu)) u h2
 ·rw[h2]
  refine D.free u (fun t ht hl hd2=>?_) fun t ht hea hd2=>?_
  ·rcases hst.2 t ht with h|rfl|⟨m,hm,hsm⟩
   ·exact h1 t h hd2
   ·rw[hun]at hl;cases hl
   ·have:=D.closed t m hm hl s.i ((D.dn.suffix hm).facts.anti s hsm u hd2 hu)
    rw[hun]at this;cases this
  ·obtain⟨b,hb⟩:=Option.isSome_iff_exists.1 hea
   obtain⟨k1,k2,_,k4⟩:=D.early t.i b hb
   have hfl:=(k4 t ht rfl).1
   rcases hin with hin|hin
   ·exact(D.da.behind_fl ht hfl D.suf (fun s hs=>k2 s hs) hin).1 u hd2 hu
   ·refine(D.da.behind_fl ht hfl hin (fun q hq=>?_) (.head _)).1 u hd2 hu
    rcases List.mem_cons.1 hq with rfl|hq
    ·intro e;rw[e,k1]at hun;cases hun
    ·exact k2 q hq
end
end Go.Abs
namespace Go.Abs
open Go
def rf(l:List Nat)(fr:Fr):Fr:=fun u=>if u∈l then fr u else .bot
def cnt(listed:Array Bool):Nat:=listed.toList.count false
theorem cnt_set{listed:Array Bool}{i:Nat}(h:listed.getD i true=false):cnt (listed.setIfInBounds i true)+1=cnt listed:=by
 have hlt:i<listed.size:=by
  rcases Nat.lt_or_ge i listed.size with h'|h'
  ·exact h'
  ·simp[Array.getElem?_eq_none h']at h
 have h1:listed[i]=false:=by simpa [hlt] using h
 unfold cnt
 rw[Array.toList_setIfInBounds,List.count_set (by simpa using hlt)]
 have h2:listed.toList[i]'(by simpa using hlt)=false:=by simpa using h1
 have h3:0<listed.toList.count false:=List.count_pos_iff.2 (h2▸List.getElem_mem _)
 rw[h2]
 simp only[beq_self_eq_true,if_true]
 have h4:(true==false)=false:=rfl
 rw[h4]
 simp only[Bool.false_eq_true,if_false]
 omega
theorem length_le_of_lt:∀(n:Nat)(l:List Nat),l.Nodup->(∀i∈l,i<n)->l.length<=n
 |0,l,_,h=>by
  cases l with
  |nil=>simp
  |cons i l=>exact absurd (h i (.head _)) (by omega)
 |n+1,l,hn,h=>by
  have h1:=length_le_of_lt n (l.erase n) (hn.erase n) (fun i hi=>by
   have h2:=(hn.mem_erase_iff).1 hi
   have:=h i h2.2
   have:=h2.1
   omega)
  have h3:l.length<=(l.erase n).length+1:=by
   rw[List.length_erase];split<;>omega
  omega
section
variable{P:Program}{N:Nat}{ops:Array Oper}{E:Env}{done all:List Seen}{x:Nat->LV}{fr0:Fr}{listed:Array Bool}{ea:Nat->Option Nat}{B0:Nat->Option Bool}{G G':Ghost}{w w':World}{a:Act}{H:LHeap}{ro:Option Nat}{nf:Nat}
theorem rf_FR{fr:Fr}{s:Seen}(hsz:a.tmps.size=N)(h:∀u∈s.b.uses,VR G w (fr u) (a.tmps.getD u undef)):FR G w N (rf s.b.uses fr) a:=
 ⟨hsz,fun k=>by unfold rf;split;exact h k (by assumption);exact .bot _⟩
theorem rf_op{fr:Fr}{s:Seen}:∀u∈s.b.op.uses,fr u=rf s.b.uses fr u:=by
 intro u hu
 have:u∈s.b.uses:=by simp[BI.uses,hu]
 simp[rf,this]
theorem rf_g{fr:Fr}{s:Seen}:∀d t,s.b.g=some (d,t)->fr d=rf s.b.uses fr d:=by
 intro d t hg
 have:d∈s.b.uses:=by simp[BI.uses,hg]
 simp[rf,this]
theorem take_pending(D:DBase P N ops done all x fr0 listed ea B0 G w a)(L:Laws E done x fr0 listed H)(hI:Inv G w H)(hE:EnvR E G w){s:Seen}(hs:s∈done)
  (hr:s.i∈Region.ready .any ops listed) (hun:listed.getD s.i false=false) {Q:Exit->Act->World->Prop} {K:Act->World->Prop}
  (hK:∀G' w' a',DBase P N ops done all x fr0 (listed.setIfInBounds s.i true) ea B0 G' w' a'->Laws E done x fr0 (listed.setIfInBounds s.i true) H->Inv G' w' H->Ext G w G' w'->a'.defers=a.defers->K a' w'):
  wpOpIn (fen ro) nf P ops Q s.i K a w:=by
 obtain⟨m,hm⟩:=suffix_of_mem hs
 have hd:=D.dn.suffix hm
 have hst:=Stands.old hm
 obtain⟨o,ho,hc,_⟩:=hd.facts.o
 have hmask:=D.mask hd hst hr
 have hF:=rf_FR (s:=s) D.tsz (D.looks hd hst (.inl hs) hr hun)
 have hsz:s.i<listed.size:=by rw[D.sz];exact D.dn.lt hs
 obtain⟨c1,c2,c3,c4⟩:=cI_inv hc
 unfold wpOpIn
 rw[ho]
 simp only[]
 rcases L s m hm hun with⟨hw,hv⟩|⟨hw,hv⟩
 ·rw[wantedB_congr rf_g]at hw
  rw[if_pos (wanted_sound hc hw fun d u _=>hF.slot d)]
  rw[valB_congr rf_op]at hv
  obtain⟨v,w',G',hy,hV,hx,hI'⟩:=valB_sound hI (ev_VR hE hF) (fun _=>rfl) (c1 (valB_nb hv)) hv
  refine hy.wpIn ?_
  rw[<-c2]
  exact hK _ _ _ ((D.mono hx).list hs hmask hV) (L.list hsz) hI' hx (put_defers _ _ _)
 ·rw[wantedB_congr rf_g]at hw
  rw[if_neg (by rw[wanted_sound hc hw fun d u _=>hF.slot d];simp)]
  refine⟨fun _ _=>trivial,?_⟩
  rw[<-c2]
  exact hK _ _ _ (D.list hs hmask (by rw[hv];exact VR.tup rfl fun i c h=>(by simp at h))) (L.list hsz) hI (Ext.refl _ _) (put_defers _ _ _)
theorem ready_getD{i:Nat}(h:i∈Region.ready .any ops listed)(hsz:listed.size=ops.size):listed.getD i true=false/\listed.getD i false=false/\i<ops.size:=by
 rw[mem_ready]at h
 obtain⟨h0,o,ho,_⟩:=h
 have hlt:=(Array.getElem?_eq_some_iff.1 ho).1
 refine⟨h0,?_,hlt⟩
 rw[Array.getD_eq_getD_getElem?,Array.getElem?_eq_getElem (by omega)]at h0 ⊢
 exact h0
theorem Done.nodup{l:List Seen}(h:Done P N ops l):(l.map (·.i)).Nodup:=by
 induction l with
 |nil=>simp
 |cons e r ih=>
  rw[List.map_cons,List.nodup_cons]
  refine⟨fun hm=>?_,ih h.tail⟩
  obtain⟨s,hs,hi⟩:=List.mem_map.1 hm
  exact h.facts.ne s hs hi
theorem Done.covers{l:List Seen}(h:Done P N ops l)(hl:l.length=ops.size){i:Nat}(hi:i<ops.size):∃s∈l,s.i=i:=by
 by_cases hm:i∈l.map (·.i)
 ·obtain⟨s,hs,hi⟩:=List.mem_map.1 hm
  exact⟨s,hs,hi⟩
 ·have:=length_le_of_lt ops.size (i::l.map (·.i)) (List.nodup_cons.2 ⟨hm,h.nodup⟩) (fun j hj=>by
   rcases List.mem_cons.1 hj with rfl|hj
   ·exact hi
   ·obtain⟨s,hs,rfl⟩:=List.mem_map.1 hj
    exact h.lt hs)
  simp[hl]at this
  omega
theorem DBase.allListed(D:DBase P N ops done all x fr0 listed ea B0 G w a)(hr:Region.ready .any ops listed=[]):∀l:List Seen,l <:+ done->∀s∈l,listed.getD s.i false=true:=by
 intro l
 induction l with
 |nil=>intro _ s hs;cases hs
 |cons e r ih=>
  intro hsuf s hs
  have hr':=ih ((List.suffix_cons _ _).trans hsuf)
  rcases List.mem_cons.1 hs with rfl|hs
  ·cases hun:listed.getD s.i false with
   |true=>rfl
   |false=>
    have hd:=D.dn.suffix hsuf
    obtain⟨o,ho,_,_,hb⟩:=hd.facts.o
    have:s.i∈Region.ready .any ops listed:=by
     rw[mem_ready]
     have hlt:s.i<listed.size:=by rw[D.sz];exact hd.lt (.head _)
     refine⟨?_,o,ho,fun e he hbi=>?_⟩
     ·rw[Array.getD_eq_getD_getElem?,Array.getElem?_eq_getElem hlt]at hun ⊢
      exact hun
     ·obtain⟨⟨t,ht,hti⟩,_⟩:=hb e.on (by simp only[bindsOf,List.mem_map,List.mem_filter];exact⟨e,⟨by simpa using he,hbi⟩,rfl⟩)
      rw[<-hti];exact hr' t ht
    rw[hr]at this;cases this
  ·exact hr' s hs
theorem Ghost.withB_self(G:Ghost){B:Nat->Option Bool}(h:G.B=B):G.withB B=G:=by subst h;rfl
theorem drw_end{Q:Exit->Act->World->Prop}{S:Res->Prop}{df:List LDef}{ds:List Deferred}(hlen:done.length=ops.size)(hS:S (.code .normal (full fr0 x done) df H)):
  ∀(fuel:Nat)(listed:Array Bool)(G:Ghost)(w:World)(a:Act),DBase P N ops done done x fr0 listed ea B0 G w a->Laws E done x fr0 listed H->Inv G w H->EnvR E G w->cnt listed<=fuel->a.defers=ds ->
   (∀e a' w',CodePost (G.withB B0) w N ds S e a' w'->Q e a' w')->wpAnyIn (fen ro) nf P .any ops Q fuel listed a w:=by
 have fin:∀(listed:Array Bool)(G:Ghost)(w:World)(a:Act),DBase P N ops done done x fr0 listed ea B0 G w a->Inv G w H->a.defers=ds->Region.ready .any ops listed=[] ->
   (∀e a' w',CodePost (G.withB B0) w N ds S e a' w'->Q e a' w')->Q .normal a w:=by
  intro listed G w a D hI had hr hQ
  have hall:=D.allListed hr done (List.suffix_refl _)
  have hea:∀i,ea i=none:=by
   intro i
   cases h:ea i with
   |none=>rfl
   |some b=>
    obtain⟨_,h2,⟨t,ht,hi⟩,_⟩:=D.early i b h
    exact absurd hi (h2 t ht)
  have hB:G.B=B0:=by
   funext k
   cases h:G.B k with
   |none=>
    cases h2:B0 k with
    |none=>rfl
    |some c=>
     have:=D.b0 k (by rw[h2];rfl)
     rw[h,h2]at this;cases this
   |some c=>
    cases c with
    |true=>exact(D.b1 k h).symm
    |false=>
     rcases D.b2 k h with h3|⟨i,hi⟩
     ·exact h3.symm
     ·rw[hea]at hi;cases hi
  rw[G.withB_self hB]at hQ
  refine hQ _ _ _ ⟨.normal,_,df,H,G,hS,trivial,hI,⟨D.tsz,fun u=>?_⟩,had,Ext.refl _ _⟩
  rcases full_spec (fr0:=fr0) (x:=x) u done with⟨t,m,h1,h2,h3⟩|⟨h1,h2⟩
  ·rw[h3];exact D.slots t (h1.mem (.head _)) (hall t (h1.mem (.head _))) u h2
  ·rw[h2];exact D.free u (fun s hs _=>h1 s hs) fun t _ ht=>(by rw[hea]at ht;cases ht)
 intro fuel
 induction fuel with
 |zero=>
  intro listed G w a D L hI hE hcnt had hQ
  have hr:Region.ready .any ops listed=[]:=by
   rw[List.eq_nil_iff_forall_not_mem]
   intro i hi
   have:=cnt_set (ready_getD hi D.sz).1
   omega
  exact⟨hr,fin listed G w a D hI had hr hQ⟩
 |succ fuel ih=>
  intro listed G w a D L hI hE hcnt had hQ
  refine⟨fun hr=>fin listed G w a D hI had hr hQ,fun i hi=>?_⟩
  obtain⟨h1,h2,h3⟩:=ready_getD hi D.sz
  obtain⟨s,hs,rfl⟩:=D.dn.covers hlen h3
  refine take_pending D L hI hE hs hi h2 fun G' w' a' D' L' hI' hx hdf=>?_
  have:=cnt_set h1
  exact ih _ G' w' a' D' L' hI' (hE.mono hx) (by omega) (hdf.trans had) fun e a'' w'' hp=>hQ _ _ _ (.fromB hx D.le hp)
end
end Go.Abs
namespace Go.Abs
open Go
section
variable{P:Program}{N:Nat}{ops:Array Oper}{E:Env}{done all:List Seen}{x:Nat->LV}{fr0:Fr}{listed:Array Bool}{ea:Nat->Option Nat}{B0:Nat->Option Bool}{G G':Ghost}{w w':World}{a:Act}{H H':LHeap}{ro:Option Nat}{nf:Nat}
theorem full_at{l:List Seen}(h:Done P N ops l){s:Seen}(hs:s∈l){d:Nat}(hd:s.b.d=some d):full fr0 x l d=x s.i:=by
 rcases full_spec (fr0:=fr0) (x:=x) d l with⟨t,m,h1,h2,h3⟩|⟨h1,_⟩
 ·rw[h3,h.injd hs (h1.mem (.head _)) hd h2]
 ·exact absurd hd (h1 s hs)
theorem Laws.eff(L:Laws E done x fr0 listed H){e:Seen}(hd:Done P N ops (e::done))(hmask:∀j,e.m.testBit j=true->listed.getD j false=true)(he:e.b.op.isEff=true)
  (hp:PendOk E (full fr0 x done) H' ((pends done e).map (·.b))):Laws E done x fr0 listed H':=by
 intro s m hm hun
 rcases L s m hm hun with⟨hw,hv⟩|h
 ·refine .inl ⟨hw,?_⟩
  have hs:s∈done:=hm.mem (.head _)
  cases hpu:s.b.op.pure with
  |true=>rw[<-hv];exact valB_pure hpu
  |false=>
   have hval:=valB_isVal hv
   have hbit:e.m.testBit s.i=false:=by
    cases hb:e.m.testBit s.i with
    |false=>rfl
    |true=>have:=hmask _ hb;rw[hun]at this;cases this
   obtain⟨⟨d,hsd⟩,hwr⟩:=hd.facts.pend s hs he hval hpu hbit
   have hagree:∀u∈s.b.uses,full fr0 x done u=full fr0 x m u:=by
    intro u hu
    rcases full_spec (fr0:=fr0) (x:=x) u done with⟨t,m',h1,h2,h3⟩|⟨h1,h2⟩
    ·have ht:t∈done:=h1.mem (.head _)
     obtain⟨t2,ht2,hi⟩:=hd.tail.masks s m hm _ (hwr t ht u h2 hu)
     have:t2=t:=hd.tail.inj (((List.suffix_cons _ _).trans hm).mem ht2) ht hi
     subst this
     rw[h3,full_at (hd.tail.suffix ((List.suffix_cons _ _).trans hm)) ht2 h2]
    ·rcases full_spec (fr0:=fr0) (x:=x) u m with⟨t,m',k1,k2,k3⟩|⟨k1,k2⟩
     ·exact absurd k2 (h1 t (((List.suffix_cons _ _).trans hm).mem (k1.mem (.head _))))
     ·rw[h2,k2]
   have hin:s.b∈(pends done e).map (·.b):=List.mem_map.2 ⟨s,by simp[pends,he,hs,hval,hpu,hbit],rfl⟩
   have hg:wantedB (full fr0 x done) s.b.g=wantedB (full fr0 x m) s.b.g:=wantedB_congr fun d t hh=>hagree d (by simp[BI.uses,hh])
   obtain⟨d',hd',hv'⟩:=hp s.b hin (by rw[hg];exact hw)
   rw[<-valB_congr (fr:=full fr0 x done) (fr':=full fr0 x m) fun u hu=>hagree u (by simp[BI.uses,hu]),hv',full_at hd.tail hs hd']
 ·exact .inr h
theorem DBase.take_new(D:DBase P N ops done all x fr0 listed ea B0 G w a){e:Seen}(hsuf:(e::done) <:+ all)(hea:ea e.i=none)(hmask:∀j,e.m.testBit j=true->listed.getD j false=true){v:LV}{u:Value}
  (hV:VR G' w' v u) (hx:Ext G w G' w'):DBase P N ops (e::done) all (fun i=>if i=e.i then v else x i) fr0 (listed.setIfInBounds e.i true) ea B0 G' w' (a.put e.b.d u):=
 ((D.mono hx).add hsuf hea v).list (.head _) hmask (by simpa using hV)
theorem full_new{e:Seen}(hd:Done P N ops (e::done)){v:LV}:full fr0 (fun i=>if i=e.i then v else x i) (e::done)=putD (full fr0 x done) e.b.d v:=by
 simp only[full,if_true]
 rw[<-full_congr (x:=x) done fun t ht=>(x_other hd v t ht).symm]
theorem DBase.behind(D:DBase P N ops done all x fr0 listed ea B0 G w a){e:Seen}(hsuf:(e::done) <:+ all)(hea:ea e.i=none)(he:e.b.op.isEff=true){t:Seen}(ht:t∈all)
  (hr:t.i∈Region.ready .any ops listed):t∈done\/t=e\/(t.fl=true/\t∉e::done):=by
 by_cases hin:t∈e::done
 ·rcases List.mem_cons.1 hin with h|h
  ·exact .inr (.inl h)
  ·exact .inl h
 ·obtain⟨m,hm⟩:=suffix_of_mem ht
  have hb:=suffix_behind hm hsuf hin
  have hd:=D.da.suffix hm
  have hde:=D.da.suffix hsuf
  rcases hd.facts.eff e (hb.mem (.head _)) he with hf|hbit
  ·exact .inr (.inr ⟨hf,hin⟩)
  ·exfalso
   obtain⟨o,ho,hc,hmk,_⟩:=hd.facts.o
   have hun:=D.unlisted hde hea
   rw[mem_ready]at hr
   obtain⟨_,o',ho',hr⟩:=hr
   obtain rfl:o=o':=by rw[ho]at ho';exact Option.some.inj ho'
   rw[hmk,maskOf_bit]at hbit
   obtain⟨k,hk,hj⟩:=hbit
   have hlk:listed.getD k false=true:=by
    simp only[bindsOf,List.mem_map,List.mem_filter]at hk
    obtain⟨e,⟨he,hbi⟩,rfl⟩:=hk
    exact hr e (by simpa using he) hbi
   rcases hj with rfl|⟨s,hf,hj⟩
   ·rw[hun]at hlk;cases hlk
   ·have hsm:=List.mem_of_find?_eq_some hf
    have hsi:s.i=k:=by simpa using List.find?_some hf
    have hma:m <:+ all:=(List.suffix_cons _ _).trans hm
    rcases D.sub k hlk with⟨s',hs',hi'⟩|hek
    ·have:s=s':=D.da.inj (hma.mem hsm) (D.suf.mem hs') (by rw[hsi,hi'])
     subst this
     obtain⟨m',hmm⟩:=suffix_of_mem hs'
     have:=D.closed s m' hmm (hsi▸hlk) _ hj
     rw[hun]at this;cases this
    ·obtain⟨b,hb'⟩:=Option.isSome_iff_exists.1 hek
     obtain⟨_,_,_,h4⟩:=D.early k b hb'
     have:=(h4 s (hma.mem hsm) hsi).1
     rw[Seen.fl_m this]at hj;cases hj
theorem fl_inv{t:Seen}(h:t.fl=true):∃d z,t.b=⟨some d,none,.al z⟩:=by
 simp only[Seen.fl,Bool.and_eq_true]at h
 obtain⟨_,h⟩:=h
 unfold BI.fl at h
 split at h
 ·rename_i z hz
  simp only[Bool.and_eq_true]at h
  obtain⟨h1,h2⟩:=h
  obtain⟨d,hd⟩:=Option.isSome_iff_exists.1 h2
  refine⟨d,z,?_⟩
  rw[Option.isNone_iff_eq_none]at h1
  cases hb:t.b with
  |mk d' g' op'=>simp only[hb]at hz h1 hd;subst hz;subst h1;subst hd;rfl
 ·cases h
theorem float_step(D:DBase P N ops done all x fr0 listed ea B0 G w a)(L:Laws E done x fr0 listed H)(hI:Inv G w H)(hE:EnvR E G w){t:Seen}(ht:t∈all)(hfl:t.fl=true)(hnd:t∉done)
  (hr:t.i∈Region.ready .any ops listed) (hun:listed.getD t.i false=false) {Q:Exit->Act->World->Prop} {K:Act->World->Prop}
  (hK:∀G' w' a' b,DBase P N ops done all x fr0 (listed.setIfInBounds t.i true) (fun i=>if i=t.i then some b else ea i) B0 G' w' a'->Laws E done x fr0 (listed.setIfInBounds t.i true) H->Inv G' w' H->EnvR E G' w' ->
   Ext (G.withB B0) w (G'.withB B0) w'->a'.defers=a.defers->K a' w'):
  wpOpIn (fen ro) nf P ops Q t.i K a w:=by
 obtain⟨m,hm⟩:=suffix_of_mem ht
 have hd:=D.da.suffix hm
 obtain⟨d,z,htb⟩:=fl_inv hfl
 obtain⟨o,ho,hc,_⟩:=hd.facts.o
 obtain⟨c1,c2,c3,c4⟩:=cI_inv hc
 have hsz:t.i<listed.size:=by rw[D.sz];exact D.da.lt ht
 have hdN:d<N:=D.da.dlt ht (by rw[htb])
 have hnd':∀s∈done,s.i≠t.i:=fun s hs e=>hnd (D.da.inj (D.suf.mem hs) ht e▸hs)
 have hea:ea t.i=none:=by
  cases h:ea t.i with
  |none=>rfl
  |some b=>have:=(D.early _ b h).1;rw[hun]at this;cases this
 rw[htb]at c1
 obtain⟨ty,hoy,hz⟩:=inv_al (c1 (by simp))
 obtain⟨ob,hy,hA⟩:=al_early G w (P:=P) (ρ:=a.eval) hoy hz
 have hw:=wanted_sound (a:=a) (w:=w) (G:=G) (fr:=fun _=>.bot) hc (t:=true) (by rw[htb];rfl) (fun d u hg=>by rw[htb]at hg;cases hg)
 unfold wpOpIn
 rw[ho]
 simp only[]
 rw[if_pos hw]
 refine hy.wpIn ?_
 rw[<-c2,htb]
 obtain⟨hx,_⟩:=hI.alloced ob
 have hfree:∀k,(G.B k).isSome->k≠w.heap.size:=fun k hk e=>hI.hB' (e▸hk)
 have bf:=fun{s:Seen} (hs:s∈done)=>D.da.behind_fl ht hfl D.suf hnd' hs
 have has:∀{v:LV}{u:Value},VR G w v u->VR (G.aside w.heap.size) (w.alloc ob) v u:=fun h=>(h.mono hx).aside hI (Nat.le_refl _)
 refine hK _ _ _ w.heap.size ?_ (L.list hsz) (hI.aside ob) ⟨fun g=>has (hE.glob g),hE.rc,fun p hp=>⟨by
   have h1:=(hE.fix p hp).1
   show (if p.1=w.heap.size then some false else G.B p.1)=some true
   rw[if_neg (hfree _ (by rw[h1];rfl)),h1],by
   obtain⟨h1,vs',t',fz',h2,h3⟩:=hE.fix p hp
   refine⟨vs',t',fz',?_,h3⟩
   rw[heap_alloc_lt (Array.getElem?_eq_some_iff.1 h2).1]
   exact h2⟩⟩ (hx.withB D.le) (put_defers _ _ _)
 refine { D with sz:=by simp[D.sz],tsz:=?_,sub:=fun i hi=>?_,closed:=fun s m hs hl j hj=>?_,slots:=fun s hs hl u hu=>?_,free:=fun u hu hu2=>?_,early:=fun i b hb=>?_,inj:=fun i j b h1 h2=>?_,b0:=fun k hk=>?_,b1:=fun k hk=>?_,b2:=fun k hk=>?_,b3:=fun i b hb=>?_ }
 ·simp[Act.put,D.tsz]
 ·rw[listed_set hsz]at hi
  split at hi
  ·rename_i e;subst e;exact .inr (by simp)
  ·rename_i e
   rcases D.sub i hi with h|h
   ·exact .inl h
   ·exact .inr (by rw[if_neg (fun h=>e h.symm)];exact h)
 ·rw[listed_set hsz]at hl ⊢
  rw[if_neg (fun e=>hnd' s (hs.mem (.head _)) e.symm)]at hl
  split
  ·rfl
  ·exact D.closed s m hs hl j hj
 ·rw[listed_set hsz,if_neg (fun e=>hnd' s hs e.symm)]at hl
  rw[put_getD,if_neg]
  ·exact has (D.slots s hs hl u hu)
  ·rintro⟨e,_⟩
   cases e
   exact(bf hs).2 d (by rw[htb]) hu
 ·have ht2:=hu2 t ht (by simp)
  rw[put_getD,if_neg]
  ·refine has (D.free u (fun s hs hl=>hu s hs (by rw[listed_set hsz];split<;>simp_all)) fun q hq hqe=>hu2 q hq ?_)
   split
   ·rfl
   ·exact hqe
  ·rintro⟨e,_⟩
   exact ht2 (by rw[htb];exact e)
 ·by_cases hi:i=t.i
  ·subst hi
   simp only[if_true,Option.some.injEq]at hb
   subst hb
   refine⟨by rw[listed_set hsz,if_pos rfl],hnd',⟨t,ht,rfl⟩,fun q hq hqi=>?_⟩
   obtain rfl:=D.da.inj hq ht hqi
   exact⟨hfl,d,z,htb,by rw[put_getD,if_pos ⟨rfl,by rw[D.tsz];exact hdN⟩],hA⟩
  ·rw[if_neg hi]at hb
   obtain⟨h1,h2,h3,h4⟩:=D.early i b hb
   refine⟨by rw[listed_set hsz];split<;>simp_all,h2,h3,fun q hq hqi=>?_⟩
   obtain⟨k1,d',z',k2,k3,k4⟩:=h4 q hq hqi
   refine⟨k1,d',z',k2,?_,?_⟩
   ·rw[put_getD,if_neg]
    ·exact k3
    ·rintro⟨e,_⟩
     cases e
     have:=D.da.injd hq ht (d:=d) (by rw[k2]) (by rw[htb])
     subst this
     exact hi hqi.symm
   ·obtain⟨q1,vs,ty',q2,q3⟩:=k4.mono hx
    exact⟨by simp only[Ghost.aside,Ghost.withB];split;rfl;exact q1,vs,ty',q2,q3⟩
 ·have key:∀i b,ea i=some b->b≠w.heap.size:=fun i b h=>by
   obtain⟨_,_,⟨q,hq,hqi⟩,h4⟩:=D.early i b h
   obtain⟨_,_,_,_,_,k4⟩:=h4 q hq hqi
   exact hfree b (by rw[k4.1];rfl)
  by_cases hi:i=t.i<;>by_cases hj:j=t.i
  ·rw[hi,hj]
  ·rw[if_pos hi]at h1;rw[if_neg hj]at h2
   cases h1
   exact absurd rfl (key j _ h2)
  ·rw[if_neg hi]at h1;rw[if_pos hj]at h2
   cases h2
   exact absurd rfl (key i _ h1)
  ·rw[if_neg hi]at h1;rw[if_neg hj]at h2
   exact D.inj i j b h1 h2
 ·have hk':=hfree k (D.le k hk)
  simp only[Ghost.aside,Ghost.withB]
  rw[if_neg hk'];exact D.b0 k hk
 ·simp only[Ghost.aside,Ghost.withB]at hk
  split at hk
  ·cases hk
  ·exact D.b1 k hk
 ·simp only[Ghost.aside,Ghost.withB]at hk
  split at hk
  ·rename_i e;exact .inr ⟨t.i,by rw[if_pos rfl,e]⟩
  ·rcases D.b2 k hk with h|⟨i,hi⟩
   ·exact .inl h
   ·refine .inr ⟨i,?_⟩
    rw[if_neg]
    ·exact hi
    ·rintro rfl;rw[hea]at hi;cases hi
 ·by_cases hi:i=t.i
  ·rw[if_pos hi]at hb
   cases hb
   cases h:B0 w.heap.size with
   |none=>rfl
   |some c=>exact absurd rfl (hfree _ (D.le _ (by rw[h];rfl)))
  ·rw[if_neg hi]at hb
   exact D.b3 i b hb
theorem adopt_step(D:DBase P N ops done all x fr0 listed ea B0 G w a)(hI:Inv G w H){e:Seen}(hsuf:(e::done) <:+ all){b:Nat}(hb:ea e.i=some b):
  e.fl=true/\listed.getD e.i false=true/\∃d z,e.b=⟨some d,none,.al z⟩/\DBase P N ops (e::done) all (fun i=>if i=e.i then .ptr H.next 0 else x i) fr0 listed (fun i=>if i=e.i then none else ea i) B0 (G.adopt H.next b) w a /\
   Inv (G.adopt H.next b) w (H.alloc (.cells z))/\(∀x v,VR G w x v->VR (G.adopt H.next b) w x v)/\Ext (G.withB B0) w ((G.adopt H.next b).withB B0) w:=by
 obtain⟨k1,k2,_,k4⟩:=D.early e.i b hb
 obtain⟨hfl,d,z,heb,ht,hA⟩:=k4 e (hsuf.mem (.head _)) rfl
 obtain⟨hI',hV,hP,hX⟩:=adopt hI hA
 have hb3:=D.b3 _ _ hb
 refine⟨hfl,k1,d,z,heb,?_,hI',hV,hX B0 D.le hb3⟩
 have hd:=D.da.suffix hsuf
 refine { D with suf:=hsuf,sub:=fun i hi=>?_,closed:=fun s m hs hl j hj=>?_,slots:=fun s hs hl u hu=>?_,free:=fun u hu hu2=>hV _ _ (D.free u (fun s hs=>hu s (.tail _ hs)) fun q hq hqe=>?_),early:=fun i b' hb'=>?_,inj:=fun i j b' h1 h2=>?_,b0:=fun k hk=>?_,b1:=fun k hk=>?_,b2:=fun k hk=>?_,b3:=fun i b' hb'=>?_ }
 ·by_cases hie:i=e.i
  ·exact .inl ⟨e,.head _,hie.symm⟩
  ·rcases D.sub i hi with⟨s,hs,h⟩|h
   ·exact .inl ⟨s,.tail _ hs,h⟩
   ·exact .inr (by rw[if_neg hie];exact h)
 ·rcases suffix_cons_cases hs with⟨rfl,rfl⟩|hs
  ·rw[Seen.fl_m hfl]at hj;cases hj
  ·exact D.closed s m hs hl j hj
 ·rcases List.mem_cons.1 hs with rfl|hs
  ·rw[heb]at hu
   cases hu
   rw[if_pos rfl,ht];exact hP
  ·rw[if_neg (hd.facts.ne s hs)]
   exact hV _ _ (D.slots s hs hl u hu)
 ·by_cases hqe':q.i=e.i
  ·obtain rfl:=D.da.inj hq (hsuf.mem (.head _)) hqe'
   exact hu _ (.head _) k1
  ·exact hu2 q hq (by rw[if_neg hqe'];exact hqe)
 ·by_cases hie:i=e.i
  ·rw[if_pos hie]at hb';cases hb'
  ·rw[if_neg hie]at hb'
   obtain⟨h1,h2,h3,h4⟩:=D.early i b' hb'
   refine⟨h1,fun s hs=>?_,h3,fun q hq hqi=>?_⟩
   ·rcases List.mem_cons.1 hs with rfl|hs
    ·exact fun e=>hie e.symm
    ·exact h2 s hs
   ·obtain⟨q1,d',z',q2,q3,q4,q5⟩:=h4 q hq hqi
    refine⟨q1,d',z',q2,q3,?_,q5⟩
    show (if b'=b then none else G.B b')=some false
    rw[if_neg]
    ·exact q4
    ·rintro rfl;exact hie (D.inj i e.i b' hb' hb)
 ·by_cases hi:i=e.i
  ·rw[if_pos hi]at h1;cases h1
  ·by_cases hj:j=e.i
   ·rw[if_pos hj]at h2;cases h2
   ·rw[if_neg hi]at h1;rw[if_neg hj]at h2
    exact D.inj i j b' h1 h2
 ·show (if k=b then none else G.B k)=B0 k
  rw[if_neg]
  ·exact D.b0 k hk
  ·rintro rfl;rw[hb3]at hk;cases hk
 ·have hk':(if k=b then none else G.B k)=some true:=hk
  split at hk'
  ·cases hk'
  ·exact D.b1 k hk'
 ·have hk':(if k=b then none else G.B k)=some false:=hk
  split at hk'
  ·cases hk'
  ·rename_i hkb
   rcases D.b2 k hk' with h|⟨i,hi⟩
   ·exact .inl h
   ·refine .inr ⟨i,?_⟩
    rw[if_neg]
    ·exact hi
    ·rintro rfl;rw[hb]at hi;cases hi;exact hkb rfl
 ·by_cases hi:i=e.i
  ·rw[if_pos hi]at hb';cases hb'
  ·rw[if_neg hi]at hb';exact D.b3 i b' hb'
theorem drw_step{Q:Exit->Act->World->Prop}{S:Res->Prop}{ds:List Deferred}{e:Seen}(hsuf:(e::done) <:+ all)(he:e.b.op.isEff=true)
  (hex:∀(fuel:Nat)(listed:Array Bool)(ea:Nat->Option Nat)(G:Ghost)(w:World)(a:Act),DBase P N ops done all x fr0 listed ea B0 G w a->ea e.i=none->Laws E done x fr0 listed H->Inv G w H->EnvR E G w->e.i∈Region.ready .any ops listed ->
   cnt listed<=fuel+1->a.defers=ds->(∀e a' w',CodePost (G.withB B0) w N ds S e a' w'->Q e a' w')->wpOpIn (fen ro) nf P ops Q e.i (wpAnyIn (fen ro) nf P .any ops Q fuel (listed.setIfInBounds e.i true)) a w):
  ∀(fuel:Nat)(listed:Array Bool)(ea:Nat->Option Nat)(G:Ghost)(w:World)(a:Act),DBase P N ops done all x fr0 listed ea B0 G w a->ea e.i=none->Laws E done x fr0 listed H->Inv G w H->EnvR E G w->cnt listed<=fuel->a.defers=ds ->
   (∀e a' w',CodePost (G.withB B0) w N ds S e a' w'->Q e a' w')->wpAnyIn (fen ro) nf P .any ops Q fuel listed a w:=by
 have some_ready:∀(listed:Array Bool)(ea:Nat->Option Nat)(G:Ghost)(w:World)(a:Act),DBase P N ops done all x fr0 listed ea B0 G w a->ea e.i=none->Region.ready .any ops listed≠[]:=by
  intro listed ea G w a D hea hr
  have hde:Done P N ops (e::done):=D.da.suffix hsuf
  have hall:=D.allListed hr done (List.suffix_refl _)
  obtain⟨o,ho,_,_,hb⟩:=hde.facts.o
  have:e.i∈Region.ready .any ops listed:=by
   rw[mem_ready]
   have hlt:e.i<listed.size:=by rw[D.sz];exact hde.lt (.head _)
   refine⟨?_,o,ho,fun k hk hbi=>?_⟩
   ·have hun:=D.unlisted hde hea
    rw[Array.getD_eq_getD_getElem?,Array.getElem?_eq_getElem hlt]at hun ⊢
    exact hun
   ·obtain⟨⟨t,ht,hti⟩,_⟩:=hb k.on (by simp only[bindsOf,List.mem_map,List.mem_filter];exact⟨k,⟨by simpa using hk,hbi⟩,rfl⟩)
    rw[<-hti];exact hall t ht
  rw[hr]at this;cases this
 intro fuel
 induction fuel with
 |zero=>
  intro listed ea G w a D hea L hI hE hcnt had hQ
  obtain⟨i,hi⟩:=List.exists_mem_of_ne_nil _ (some_ready _ _ _ _ _ D hea)
  have:=cnt_set (ready_getD hi D.sz).1
  omega
 |succ fuel ih=>
  intro listed ea G w a D hea L hI hE hcnt had hQ
  refine⟨fun hr=>absurd hr (some_ready _ _ _ _ _ D hea),fun i hi=>?_⟩
  obtain⟨h1,h2,h3⟩:=ready_getD hi D.sz
  obtain⟨s,hs,rfl⟩:=D.da.covers D.len h3
  have hcs:=cnt_set h1
  rcases D.behind hsuf hea he hs hi with hs|rfl|⟨hf,hn⟩
  ·refine take_pending D L hI hE hs hi h2 fun G' w' a' D' L' hI' hx hdf=>?_
   exact ih _ _ G' w' a' D' hea L' hI' (hE.mono hx) (by omega) (hdf.trans had) fun e a'' w'' hp=>hQ _ _ _ (.fromB hx D.le hp)
  ·exact hex fuel listed ea G w a D hea L hI hE hi hcnt had hQ
  ·refine float_step D L hI hE hs hf (fun h=>hn (.tail _ h)) hi h2 fun G' w' a' b D' L' hI' hE' hx hdf=>?_
   refine ih _ _ G' w' a' D' ?_ L' hI' hE' (by omega) (hdf.trans had) fun e a'' w'' hp=>hQ _ _ _ (.from hx hp)
   rw[if_neg]
   ·exact hea
   ·intro e
    have:=D.da.inj (hsuf.mem (.head _)) hs e
    exact hn (this▸.head _)
end
section
variable{P:Program}{N:Nat}{ops:Array Oper}
theorem drawGo_path:∀{l:List (BI×List BI)}{done:List Seen}{is:List Nat},Done P N ops done->drawGo P N ops done is=some l->∃all,Path P N ops done l all
 |[],done,is,hd,h=>by
  refine⟨done,.nil ?_⟩
  cases is with
  |nil=>simp only[drawGo]at h;split at h;assumption;cases h
  |cons i r=>
   simp only[drawGo]at h
   split at h
   ·split at h
    ·split at h
     ·simp[Option.map_eq_some_iff]at h
     ·cases h
    ·cases h
   ·cases h
 |(b,p)::l,done,is,hd,h=>by
  cases is with
  |nil=>simp only[drawGo]at h;split at h<;>simp at h
  |cons i r=>
   simp only[drawGo]at h
   split at h
   ·rename_i o ho
    split at h
    ·rename_i b' hb
     split at h
     ·rename_i hs
      simp only[Bool.and_eq_true]at hs
      obtain⟨l',hl',he⟩:=Option.map_eq_some_iff.1 h
      simp only[List.cons.injEq,Prod.mk.injEq]at he
      obtain⟨⟨rfl,rfl⟩,rfl⟩:=he
      have hd':Done P N ops (⟨i,maskOf done (bindsOf o),b'⟩::done):=.cons ho hb rfl hs.1 hs.2 hd
      obtain⟨all,hall⟩:=drawGo_path hd' hl'
      exact⟨all,.cons hd' hall⟩
     ·cases h
    ·cases h
   ·cases h
theorem Path.suf{done all:List Seen}{l:List (BI×List BI)}(h:Path P N ops done l all):done <:+ all:=by
 induction h with
 |nil=>exact List.suffix_refl _
 |cons _ _ ih=>exact(List.suffix_cons _ _).trans ih
theorem Path.end{done all:List Seen}{l:List (BI×List BI)}(h:Path P N ops done l all):all.length=ops.size/\(Done P N ops done->Done P N ops all):=by
 induction h with
 |nil h=>exact⟨h,id⟩
 |cons hd _ ih=>exact⟨ih.1,fun _=>ih.2 hd⟩
end
def DrwOk(P:Program)(E:Env)(l:List (BI×List BI))(fr:Fr)(H:LHeap)(S:Res->Prop):Prop:=
 ∀(ro:Option Nat)(nf N:Nat)(ops:Array Oper)(done all:List Seen)(x:Nat->LV)(fr0:Fr)(listed:Array Bool)(ea:Nat->Option Nat)(B0:Nat->Option Bool)(G:Ghost)(w:World)(a:Act)(Q:Exit->Act->World->Prop)(fuel:Nat),
  Path P N ops done l all->DBase P N ops done all x fr0 listed ea B0 G w a->Laws E done x fr0 listed H->Inv G w H->EnvR E G w->full fr0 x done=fr->cnt listed<=fuel ->
  (∀e a' w',CodePost (G.withB B0) w N a.defers S e a' w'->Q e a' w')->wpAnyIn (fen ro) nf P .any ops Q fuel listed a w
section
variable{P:Program}{E:Env}{fr:Fr}{H H':LHeap}{S:Res->Prop}{df:List LDef}{i:BI}{p:List BI}{l:List (BI×List BI)}
theorem drw_nil(h:S (.code .normal fr df H)):DrwOk P E [] fr H S:=by
 intro ro nf N ops done all x fr0 listed ea B0 G w a Q fuel hp D L hI hE hfr hcnt hQ
 subst hfr
 cases hp with
 |nil hlen=>exact drw_end hlen h fuel listed G w a D L hI hE hcnt rfl hQ
theorem drw_wait{v:LV}(hlaw:(wantedB fr i.g=some true/\valB E fr H i.op=some v)\/(wantedB fr i.g=some false/\v=.tup []))(ih:DrwOk P E l (putD fr i.d v) H S):DrwOk P E ((i,p)::l) fr H S:=by
 intro ro nf N ops done all x fr0 listed ea B0 G w a Q fuel hp D L hI hE hfr hcnt hQ
 subst hfr
 cases hp with
 |@cons e _ _ _ hd hp=>
  have hea:ea e.i=none:=by
   cases h:ea e.i with
   |none=>rfl
   |some b=>
    obtain⟨_,_,_,h4⟩:=D.early e.i b h
    obtain⟨_,d,z,heb,_⟩:=h4 e (hp.suf.mem (.head _)) rfl
    rw[heb]at hlaw
    rcases hlaw with⟨_,h⟩|⟨h,_⟩<;>cases h
  exact ih ro nf N ops (e::done) all _ fr0 listed ea B0 G w a Q fuel hp (D.add hp.suf hea v) (L.add hd fun _=>hlaw) hI hE (full_new hd) hcnt hQ
theorem drw_eff{v:LV}(hw:wantedB fr i.g=some true)(hv:effR E fr H i.op v H')(hms:∀z n,i.op≠.ms z n)(hpend:PendOk E fr H' p)(ih:DrwOk P E l (putD fr i.d v) H' S):DrwOk P E ((i,p)::l) fr H S:=by
 intro ro nf N ops done all x fr0 listed ea B0 G w a Q fuel hp D L hI hE hfr hcnt hQ
 subst hfr
 cases hp with
 |@cons e _ _ _ hd hp=>
  have he:=effR_isEff hv hms
  cases hea:ea e.i with
  |some b=>
   obtain⟨hfl,hli,d,z,heb,D',hI',hV,hX⟩:=adopt_step D hI hp.suf hea
   rw[heb]at hv
   have hv':v=.ptr H.next 0/\H'=H.alloc (.cells z):=by
    rcases hv with hv|hv
    ·simp only[effB,Option.some.injEq,Prod.mk.injEq]at hv
     exact⟨hv.1.symm,hv.2.symm⟩
    ·cases hv
   obtain⟨rfl,rfl⟩:=hv'
   exact ih ro nf N ops (e::done) all _ fr0 listed _ B0 _ w a Q fuel hp D' ((L.eff hd (fun j hj=>by rw[Seen.fl_m hfl]at hj;cases hj) he hpend).add hd fun hun=>by rw[hli]at hun;cases hun) hI' ⟨fun g=>hV _ _ (hE.glob g),hE.rc,fun p hp=>by
    obtain⟨h1,h2⟩:=hE.fix p hp
    refine⟨?_,h2⟩
    have hne:p.1≠b:=fun e=>by
     have h3:=D.b1 _ h1
     rw[e,D.b3 _ _ hea]at h3
     cases h3
    show (if p.1=b then none else G.B p.1)=some true
    rw[if_neg hne];exact h1⟩ (full_new hd) hcnt
    fun e a'' w'' hq=>hQ _ _ _ (.from hX hq)
  |none=>
   refine drw_step hp.suf he (fun fuel listed ea G w a D hea L hI hE hr hcnt had hQ=>?_) fuel listed ea G w a D hea L hI hE hcnt rfl hQ
   obtain⟨h1,h2,h3⟩:=ready_getD hr D.sz
   have hmask:=D.mask hd (Stands.new e) hr
   have hF:=rf_FR (s:=e) D.tsz (D.looks hd (Stands.new e) (.inr hp.suf) hr h2)
   obtain⟨o,ho,hc,_⟩:=hd.facts.o
   obtain⟨c1,c2,c3,c4⟩:=cI_inv hc
   have hsz:e.i<listed.size:=by rw[D.sz];exact h3
   rw[wantedB_congr rf_g]at hw
   rw[effR_congr rf_op]at hv
   unfold wpOpIn
   rw[ho]
   simp only[]
   rw[if_pos (wanted_sound hc hw fun d u _=>hF.slot d)]
   obtain⟨u,w',G',hy,hV,hx,hI'⟩:=effR_sound hI (ev_VR hE hF) (c1 (effR_nb hv)) hv
   refine hy.wpIn ?_
   rw[<-c2]
   have hcs:=cnt_set h1
   exact ih ro nf N ops (e::done) all _ fr0 _ ea B0 G' w' _ Q fuel hp (D.take_new hp.suf hea hmask hV hx) (((L.eff hd hmask he hpend).list hsz).add hd fun hun=>by simp[hsz]at hun) hI' (hE.mono hx) (full_new hd) (by omega)
    fun e a'' w'' hq=>hQ _ _ _ (.fromB hx D.le (by rwa [put_defers,had]at hq))
theorem drw_call{T:Res->Prop}{f:FuncId}{args:List LV}(hw:wantedB fr i.g=some true)(hv:calleeB E fr i.op=some (f,args))(hcall:CallOk P E f args H T)
  (hpend:∀v H',T (.ret v H')->PendOk E fr H' p) (ih:∀v H',T (.ret v H')->DrwOk P E l (putD fr i.d v) H' S) (hpan:∀v H',T (.pan v H')->S (.code (.pan v) (fun _=>.bot) df H')):
  DrwOk P E ((i,p)::l) fr H S:=by
 intro ro nf N ops done all x fr0 listed ea B0 G w a Q fuel hp D L hI hE hfr hcnt hQ
 subst hfr
 cases hp with
 |@cons e _ _ _ hd hp=>
  have he:=calleeB_isEff hv
  have hea:ea e.i=none:=by
   cases h:ea e.i with
   |none=>rfl
   |some b=>
    obtain⟨_,_,_,h4⟩:=D.early e.i b h
    obtain⟨_,d,z,heb,_⟩:=h4 e (hp.suf.mem (.head _)) rfl
    rw[heb]at hv
    cases hv
  refine drw_step hp.suf he (fun fuel listed ea G w a D hea L hI hE hr hcnt had hQ=>?_) fuel listed ea G w a D hea L hI hE hcnt rfl hQ
  obtain⟨h1,h2,h3⟩:=ready_getD hr D.sz
  have hmask:=D.mask hd (Stands.new e) hr
  have hF:=rf_FR (s:=e) D.tsz (D.looks hd (Stands.new e) (.inr hp.suf) hr h2)
  obtain⟨o,ho,hc,_⟩:=hd.facts.o
  obtain⟨c1,c2,c3,c4⟩:=cI_inv hc
  have hsz:e.i<listed.size:=by rw[D.sz];exact h3
  rw[wantedB_congr rf_g]at hw
  rw[calleeB_congr rf_op]at hv
  unfold wpOpIn
  rw[ho]
  simp only[]
  rw[if_pos (wanted_sound hc hw fun d u _=>hF.slot d)]
  refine call_wp (N:=N) (ops:=ops) hI hE (ev_VR hE hF) (c1 (calleeB_nb hv)) hv hcall (fun v H' G' w' u hT hV hI' hx=>?_) (fun v H' G' w' u hT hV hI' hx=>?_)
  ·rw[<-c2]
   have hcs:=cnt_set h1
   exact ih v H' hT ro nf N ops (e::done) all _ fr0 _ ea B0 G' w' _ Q fuel hp (D.take_new hp.suf hea hmask hV hx) (((L.eff hd hmask he (hpend v H' hT)).list hsz).add hd fun hun=>by simp[hsz]at hun) hI' (hE.mono hx) (full_new hd) (by omega)
    fun e a'' w'' hq=>hQ _ _ _ (.fromB hx D.le (by rwa [put_defers,had]at hq))
  ·have hle:∀k,(B0 k).isSome->(G'.B k).isSome:=fun k hk=>by rw[hx.hB];exact D.le k hk
   have hb1:∀k,G'.B k=some true->B0 k=some true:=fun k hk=>D.b1 k (by rw[<-hx.hB];exact hk)
   exact hQ _ _ _ ⟨.pan v,_,df,H',G'.withB B0,hpan v H' hT,⟨u,rfl,hV.withB hb1⟩,hI'.off hle hb1,⟨D.tsz,fun _=>.bot _⟩,had,hx.withB D.le⟩
end
end Go.Abs
namespace Go.Abs
open Go
def CodeWp(P:Program)(E:Env)(c:BCode)(fr:Fr)(H:LHeap)(S:Res->Prop):Prop:=
 ∀(ro:Option Nat)(nf N:Nat)(code:Code)(G:Ghost)(w:World)(a:Act)(Q:Exit->Act->World->Prop),cCode P N code=some c->Inv G w H->EnvR E G w->FR G w N fr a ->
  (∀e a' w',CodePost G w N a.defers S e a' w'->Q e a' w')->code.wpIn (fen ro) nf P Q a w
def LoopOk(P:Program)(E:Env)(c:BCode)(fr:Fr)(H:LHeap)(S:Res->Prop):Prop:=
 ∀(ro:Option Nat)(nf N:Nat)(code:Code)(G:Ghost)(w:World)(a:Act)(Q:Exit->Act->World->Prop),cCode P N code=some c->Inv G w H->EnvR E G w->FR G w N fr a ->
  (∀e a' w',CodePost G w N a.defers S e a' w'->Q e a' w') ->
  ∀(b:Frame)(k:List Item)(cs:List Frame),b.roundOf=ro->∃e a' w',Q e a' w'/\ArrivesIn (Machine.fenced P (fen ro)) P (lone (b.atR a (.code code::.inLoop code::k)) cs w) b k cs e a' w'
structure CodeOk(P:Program)(E:Env)(c:BCode)(fr:Fr)(H:LHeap)(S:Res->Prop):Prop where
 wp:CodeWp P E c fr H S
 ops:∀l,c=.ops l->OpsOk P E l fr H S
 drw:∀l,c=.drw l->DrwOk P E l fr H S
 loop:∀b,c=.loop b->LoopOk P E b fr H S
def JobOk(P:Program)(E:Env):Job->(Res->Prop)->Prop
 |.code c fr _ H,S=>CodeOk P E c fr H S
 |.call f args H,S=>CallOk P E f args H S
theorem CodeOk.plain{P:Program}{E:Env}{c:BCode}{fr:Fr}{H:LHeap}{S:Res->Prop}(h:CodeWp P E c fr H S)(h1:∀l,c≠.ops l)(h2:∀l,c≠.drw l)(h3:∀b,c≠.loop b):
  CodeOk P E c fr H S:=⟨h,fun l e=>absurd e (h1 l),fun l e=>absurd e (h2 l),fun l e=>absurd e (h3 l)⟩
section
variable{P:Program}{N:Nat}{code:Code}
theorem cCode_ops{l:List BI}(h:cCode P N code=some (.ops l)):∃id ops,code=.region id ops false/\ops.toList.mapM (cI P N ops)=some l:=by
 cases code with
 |region id ops d=>
  cases d with
  |false=>simp only[cCode,Option.map_eq_some_iff]at h;obtain⟨l',h1,h2⟩:=h;cases h2;exact⟨id,ops,rfl,h1⟩
  |true=>cases hd:cDraw P N ops<;>simp[cCode,hd]at h
 |seq a b=>simp[cCode,Option.bind_eq_some_iff]at h
 |cond c a b=>simp[cCode,Option.bind_eq_some_iff]at h
 |rangeFunc=>simp[cCode,Option.bind_eq_some_iff]at h
 |_=>simp[cCode]at h
theorem cCode_drw{l:List (BI×List BI)}(h:cCode P N code=some (.drw l)):∃id ops,code=.region id ops true/\cDraw P N ops=some l:=by
 cases code with
 |region id ops d=>
  cases d with
  |false=>simp only[cCode,Option.map_eq_some_iff]at h;obtain⟨l',h1,h2⟩:=h;cases h2
  |true=>
   cases hd:cDraw P N ops with
   |none=>simp[cCode,hd]at h
   |some l'=>simp[cCode,hd]at h;subst h;exact⟨id,ops,rfl,hd⟩
 |seq a b=>simp[cCode,Option.bind_eq_some_iff]at h
 |cond c a b=>simp[cCode,Option.bind_eq_some_iff]at h
 |rangeFunc=>simp[cCode,Option.bind_eq_some_iff]at h
 |_=>simp[cCode]at h
theorem region_not{id:Nat}{ops:Array Oper}{d:Bool}{c:BCode}(h:cCode P N (.region id ops d)=some c):(∃l,c=.ops l)\/(∃l,c=.drw l)\/c=.bad:=by
 cases d with
 |false=>simp only[cCode,Option.map_eq_some_iff]at h;obtain⟨l',h1,h2⟩:=h;exact .inl ⟨_,h2.symm⟩
 |true=>
  cases hd:cDraw P N ops with
  |none=>simp[cCode,hd]at h;exact .inr (.inr h.symm)
  |some l'=>simp[cCode,hd]at h;exact .inr (.inl ⟨_,h.symm⟩)
theorem cCode_seq{x y:BCode}(h:cCode P N code=some (.seq x y)):∃a b,code=.seq a b/\cCode P N a=some x/\cCode P N b=some y:=by
 cases code with
 |region id ops d=>rcases region_not h with⟨_,h⟩|⟨_,h⟩|h<;>cases h
 |seq a b=>simp[cCode,Option.bind_eq_some_iff]at h;exact⟨a,b,rfl,h⟩
 |cond c a b=>simp[cCode,Option.bind_eq_some_iff]at h
 |rangeFunc=>simp[cCode,Option.bind_eq_some_iff]at h
 |_=>simp[cCode]at h
theorem cCode_cond{c:BO}{x y:BCode}(h:cCode P N code=some (.cond c x y)):∃d a b,code=.cond d a b/\cO d=some c/\cCode P N a=some x/\cCode P N b=some y:=by
 cases code with
 |region id ops d=>rcases region_not h with⟨_,h⟩|⟨_,h⟩|h<;>cases h
 |seq a b=>simp[cCode,Option.bind_eq_some_iff]at h
 |cond c a b=>
  simp only[cCode,Option.bind_eq_bind,Option.bind_eq_some_iff,Option.some.injEq,BCode.cond.injEq]at h
  obtain⟨c',h1,a',h2,b',h3,rfl,rfl,rfl⟩:=h
  exact⟨_,_,_,rfl,h1,h2,h3⟩
 |rangeFunc=>simp[cCode,Option.bind_eq_some_iff]at h
 |_=>simp[cCode]at h
theorem cCode_blk{id:Nat}{x:BCode}(h:cCode P N code=some (.blk id x)):∃a,code=.block id a/\cCode P N a=some x:=by
 cases code with
 |region id ops d=>rcases region_not h with⟨_,h⟩|⟨_,h⟩|h<;>cases h
 |seq a b=>simp[cCode,Option.bind_eq_some_iff]at h
 |cond c a b=>simp[cCode,Option.bind_eq_some_iff]at h
 |rangeFunc=>simp[cCode,Option.bind_eq_some_iff]at h
 |block id a=>simp[cCode,Option.map_eq_some_iff]at h;exact⟨a,by rw[h.2],h.1⟩
 |_=>simp[cCode]at h
theorem cCode_loop{x:BCode}(h:cCode P N code=some (.loop x)):∃a,code=.loop a/\cCode P N a=some x:=by
 cases code with
 |region id ops d=>rcases region_not h with⟨_,h⟩|⟨_,h⟩|h<;>cases h
 |seq a b=>simp[cCode,Option.bind_eq_some_iff]at h
 |cond c a b=>simp[cCode,Option.bind_eq_some_iff]at h
 |rangeFunc=>simp[cCode,Option.bind_eq_some_iff]at h
 |loop a=>simp[cCode,Option.map_eq_some_iff]at h;exact⟨a,rfl,h⟩
 |_=>simp[cCode]at h
theorem cCode_skip(h:cCode P N code=some .skip):code=.skip:=by
 cases code with
 |region id ops d=>rcases region_not h with⟨_,h⟩|⟨_,h⟩|h<;>cases h
 |seq a b=>simp[cCode,Option.bind_eq_some_iff]at h
 |cond c a b=>simp[cCode,Option.bind_eq_some_iff]at h
 |rangeFunc=>simp[cCode,Option.bind_eq_some_iff]at h
 |skip=>rfl
 |_=>simp[cCode]at h
theorem cCode_ret(h:cCode P N code=some .ret):code=.ret:=by
 cases code with
 |region id ops d=>rcases region_not h with⟨_,h⟩|⟨_,h⟩|h<;>cases h
 |seq a b=>simp[cCode,Option.bind_eq_some_iff]at h
 |cond c a b=>simp[cCode,Option.bind_eq_some_iff]at h
 |rangeFunc=>simp[cCode,Option.bind_eq_some_iff]at h
 |ret=>rfl
 |_=>simp[cCode]at h
theorem cCode_exit{id:Nat}(h:cCode P N code=some (.exit id)):code=.exit id:=by
 cases code with
 |region id ops d=>rcases region_not h with⟨_,h⟩|⟨_,h⟩|h<;>cases h
 |seq a b=>simp[cCode,Option.bind_eq_some_iff]at h
 |cond c a b=>simp[cCode,Option.bind_eq_some_iff]at h
 |rangeFunc=>simp[cCode,Option.bind_eq_some_iff]at h
 |exit j=>simp[cCode]at h;rw[h]
 |_=>simp[cCode]at h
end
section
variable{P:Program}{E:Env}{fr:Fr}{H:LHeap}{S T:Res->Prop}{G:Ghost}{w:World}
theorem OpsOk.code{l:List BI}(h:OpsOk P E l fr H S):CodeOk P E (.ops l) fr H S where
 wp ro nf N code G w a Q hc hI hE hf hQ:=by
  obtain⟨id,ops,rfl,hm⟩:=cCode_ops hc
  exact wpIn_region_list (h ro nf N ops ops.toList G w a Q hm hI hE hf hQ)
 ops l' e:=by cases e;exact h
 drw l' e:=by cases e
 loop l' e:=by cases e
theorem Ext.draw(G:Ghost)(w:World):Ext G w G { w with drawn:=w.drawn+1 }:=
 ⟨rfl,rfl,rfl,Nat.le_refl _,rfl,fun _ _=>rfl,Nat.le_refl _,fun _ _=>rfl,fun _ _=>rfl,fun _ _ h=>⟨h,fun _ h=>h⟩,
  fun _ _ m b c h=>⟨m,b,c,h,Nat.le_refl _,fun _=>⟨rfl,rfl⟩⟩,rfl⟩
theorem Inv.draw(hI:Inv G w H):Inv G { w with drawn:=w.drawn+1 } H where
 n:=hI.n
 hB:=hI.hB
 free:=hI.free
 old:=hI.old
 objs o x hx:=by
  obtain⟨h1,h2⟩:=hI.objs o x hx
  have hd:=Ext.draw G w
  refine⟨h1,?_⟩
  cases x with
  |cells cs=>
   obtain⟨vs,el,fz,a,b,c,d,e,f⟩:=h2
   exact⟨vs,el,fz,a,b,c,d,e,fun i c hc=>⟨(f i c hc).1.mono hd,(f i c hc).2⟩⟩
  |arr sz cs=>
   obtain⟨vs,el,fz,a,b,c,d,e,f,g⟩:=h2
   exact⟨vs,el,fz,a,b,c,d,e,f,fun i c hc=>⟨(g i c hc).1.mono hd,(g i c hc).2⟩⟩
  |map es=>
   obtain⟨ents,clock,a,b,c,d,e,f⟩:=h2
   exact⟨ents,clock,a,b,c,d,fun i kv en h1 h2=>⟨(e i kv en h1 h2).1.mono hd,(e i kv en h1 h2).2.mono hd⟩,f⟩
  |um es=>
   obtain⟨es0,hp,ents,clock,a,b,c,d,e,f⟩:=h2
   exact⟨es0,hp,ents,clock,a,b,c,d,fun i kv en h1 h2=>⟨(e i kv en h1 h2).1.mono hd,(e i kv en h1 h2).2.mono hd⟩,f⟩
  |iter m left cur n=>exact h2
  |tok n sz=>exact h2
  |bld tb te l=>exact h2
  |dfr=>exact h2
  |lft=>exact h2
  |rcd busy fo ps k=>
   obtain⟨fn,tmps,df,a,b,c,d,e⟩:=h2
   exact⟨fn,tmps,df,a,b,c,d,fun i x hi=>(e i x hi).mono hd⟩
theorem cnt_new(n:Nat):cnt (Array.replicate n false)=n:=by simp[cnt]
theorem DrwOk.code{l:List (BI×List BI)}(hmix:P.follows .mixedOrders=true)(h:DrwOk P E l fr H S):CodeOk P E (.drw l) fr H S where
 wp ro nf N code G w a Q hc hI hE hf hQ:=by
  obtain⟨id,ops,rfl,hm⟩:=cCode_drw hc
  have hx:=Ext.draw G w
  obtain⟨all,hall⟩:=drawGo_path (P:=P) .nil hm
  refine wpIn_region_any hmix (h ro nf N ops [] all (fun _=>.bot) fr (Array.replicate ops.size false) (fun _=>none) G.B G _ a Q ops.size hall ?_ ?_ hI.draw (hE.mono hx) rfl (Nat.le_of_eq (cnt_new _)) fun e a' w' hp=>hQ _ _ _ (.from hx (by rwa [G.withB_self rfl]at hp)))
  ·refine⟨hall.end.2 .nil,List.nil_suffix,hall.end.1,by simp,hf.size,fun i hi=>?_,fun s m hm=>?_,fun s hs=>(List.not_mem_nil hs).elim,fun u _ _=>(hf.slot u).mono hx,fun i b h=>(by cases h),fun i j b h=>(by cases h),
    fun k _=>rfl,fun k h=>h,fun k h=>.inl h,fun i b h=>(by cases h)⟩
   ·simp[Array.getD_eq_getD_getElem?,Array.getElem?_replicate]at hi
    split at hi<;>simp at hi
   ·simp at hm
  ·intro s m hm
   simp at hm
 ops l' e:=by cases e
 drw l' e:=by cases e;exact h
 loop l' e:=by cases e
theorem ExR.cases{le:LExit}{e:Exit}(h:ExR G w le e):(le=.normal/\e=.normal)\/(∃n,le=.exit n/\e=.exit n)\/(le=.ret/\e=.ret)\/(∃v ch,le=.pan v/\e=.panic ch):=by
 cases le<;>cases e<;>simp_all [ExR]
theorem ok_seq{x y:BCode}(hx:CodeOk P E x fr H T)(hy:∀fr df H,T (.code .normal fr df H)->CodeOk P E y fr H S)
  (ho:∀e fr df H,T (.code e fr df H)->e≠.normal->S (.code e fr df H)):CodeOk P E (.seq x y) fr H S:=by
 refine .plain (fun ro nf N code G w a Q hc hI hE hf hQ=>?_) (fun l e=>by cases e) (fun l e=>by cases e) fun l e=>by cases e
 obtain⟨c1,c2,rfl,h1,h2⟩:=cCode_seq hc
 refine wpIn_seq (hx.wp ro nf N c1 G w a _ h1 hI hE hf fun e a' w' hp=>?_)
 obtain⟨le,fr',df',H',G',hT,he,hI',hf',hd,hxt⟩:=hp
 rcases he.cases with⟨rfl,rfl⟩|⟨n,rfl,rfl⟩|⟨rfl,rfl⟩|⟨v,ch,rfl,rfl⟩
 ·exact(hy _ _ _ hT).wp ro nf N c2 G' w' a' Q h2 hI' (hE.mono hxt) hf' fun e a'' w'' hp=>hQ _ _ _ (.from hxt (by rwa [hd]at hp))
 ·exact hQ _ _ _ ⟨_,fr',df',H',G',ho _ _ _ _ hT (by simp),he,hI',hf',hd,hxt⟩
 ·exact hQ _ _ _ ⟨_,fr',df',H',G',ho _ _ _ _ hT (by simp),he,hI',hf',hd,hxt⟩
 ·exact hQ _ _ _ ⟨_,fr',df',H',G',ho _ _ _ _ hT (by simp),he,hI',hf',hd,hxt⟩
theorem ok_blk{id:Nat}{x:BCode}(hx:CodeOk P E x fr H T)(hn:∀fr df H,T (.code .normal fr df H)->S (.code .normal fr df H))(he:∀fr df H,T (.code (.exit id) fr df H)->S (.code .normal fr df H))
  (ho:∀e fr df H,T (.code e fr df H)->e≠.normal->e≠.exit id->S (.code e fr df H)):CodeOk P E (.blk id x) fr H S:=by
 refine .plain (fun ro nf N code G w a Q hc hI hE hf hQ=>?_) (fun l e=>by cases e) (fun l e=>by cases e) fun l e=>by cases e
 obtain⟨c1,rfl,h1⟩:=cCode_blk hc
 refine wpIn_block (hx.wp ro nf N c1 G w a _ h1 hI hE hf fun e a' w' hp=>?_)
 obtain⟨le,fr',df',H',G',hT,hex,hI',hf',hd,hxt⟩:=hp
 rcases hex.cases with⟨rfl,rfl⟩|⟨n,rfl,rfl⟩|⟨rfl,rfl⟩|⟨v,ch,rfl,rfl⟩
 ·exact hQ _ _ _ ⟨_,fr',df',H',G',hn _ _ _ hT,hex,hI',hf',hd,hxt⟩
 ·simp only[Exit.inBlock]
  split
  ·rename_i hid
   subst hid
   exact hQ _ _ _ ⟨.normal,fr',df',H',G',he _ _ _ hT,trivial,hI',hf',hd,hxt⟩
  ·rename_i hid
   exact hQ _ _ _ ⟨_,fr',df',H',G',ho _ _ _ _ hT (by simp) (by simpa using hid),hex,hI',hf',hd,hxt⟩
 ·exact hQ _ _ _ ⟨_,fr',df',H',G',ho _ _ _ _ hT (by simp) (by simp),hex,hI',hf',hd,hxt⟩
 ·exact hQ _ _ _ ⟨_,fr',df',H',G',ho _ _ _ _ hT (by simp) (by simp),hex,hI',hf',hd,hxt⟩
theorem LoopOk.code{x:BCode}(h:LoopOk P E x fr H S):CodeOk P E (.loop x) fr H S where
 wp ro nf N code G w a Q hc hI hE hf hQ:=by
  obtain⟨c1,rfl,h1⟩:=cCode_loop hc
  intro b k cs hro hb hr
  obtain⟨e,a',w',hq,harr⟩:=h ro nf N c1 G w a Q h1 hI hE hf hQ b k cs hro
  exact⟨e,a',w',hq,.of_steps (.one (fenced_calm hb hr rfl) stepR_loop) harr⟩
 ops l' e:=by cases e
 drw l' e:=by cases e
 loop l' e:=by cases e;exact h
theorem ok_loop{x:BCode}(hx:CodeOk P E x fr H T)(hy:∀fr df H,T (.code .normal fr df H)->CodeOk P E (.loop x) fr H S)
  (ho:∀e fr df H,T (.code e fr df H)->e≠.normal->S (.code e fr df H)):CodeOk P E (.loop x) fr H S:=by
 refine LoopOk.code fun ro nf N c1 G w a Q h1 hI hE hf hQ b k cs hro=>?_
 have hroom:∀m,(fen ro).room m:=fun m d hd=>(by cases hd)
 obtain⟨e,a',w',hp,harr⟩:=hx.wp ro nf N c1 G w a (CodePost G w N a.defers T) h1 hI hE hf (fun _ _ _ h=>h) b (.inLoop c1::k) cs hro trivial (hroom _)
 obtain⟨le,fr',df',H',G',hT,he,hI',hf',hd,hxt⟩:=hp
 rcases he.cases with⟨rfl,rfl⟩|⟨n,rfl,rfl⟩|⟨rfl,rfl⟩|⟨v,ch,rfl,rfl⟩
 ·obtain⟨e2,a2,w2,hq2,harr2⟩:=(hy _ _ _ hT).loop x rfl ro nf N c1 G' w' a' Q h1 hI' (hE.mono hxt) hf' (fun e a'' w'' hp=>hQ _ _ _ (.from hxt (by rwa [hd]at hp))) b k cs hro
  exact⟨e2,a2,w2,hq2,.of_steps (StepsIn.trans harr (.one (fenced_calm (n:=nf) (fr:=b.atR a' (.inLoop c1::k)) trivial (hroom _) rfl) stepR_inLoop)) harr2⟩
 ·exact⟨_,a',w',hQ _ _ _ ⟨_,fr',df',H',G',ho _ _ _ _ hT (by simp),he,hI',hf',hd,hxt⟩,.pass (x:=.inLoop c1) rfl (fun _ _=>.inl (by simp)) harr⟩
 ·exact⟨_,a',w',hQ _ _ _ ⟨_,fr',df',H',G',ho _ _ _ _ hT (by simp),he,hI',hf',hd,hxt⟩,.pass (x:=.inLoop c1) rfl (fun _ _=>.inl (by simp)) harr⟩
 ·exact⟨_,a',w',hQ _ _ _ ⟨_,fr',df',H',G',ho _ _ _ _ hT (by simp),he,hI',hf',hd,hxt⟩,.pass (x:=.inLoop c1) rfl (fun _ _=>.inl (by simp)) harr⟩
def resOf(P:Program)(tmps:Array Value)(r:ResultVar):Sem Value:=
 match r with
 |.tmp t=>pure (tmps.getD t undef)
 |.cell a t=>do loadVar t (<- asAddr (tmps.getD a undef))
theorem results_eq(fn:Func)(tmps:Array Value):results fn tmps=(do let vs <- fn.results.mapM (resOf P tmps);pure (if h:vs.size=1 then vs[0] else .tuple vs)):=by
 unfold results
 congr
theorem run_result{N:Nat}{a:Act}{r:ResultVar}{b:BRes}{v:LV}(hI:Inv G w H)(hf:FR G w N fr a)(hc:cRes P r=some b)(h:resL H fr b=some v):
  ∃u,(resOf P a.tmps r).run P w=.ok u w/\VR G w v u:=by
 cases r with
 |tmp t=>
  simp[cRes]at hc;subst hc
  simp[resL]at h;subst h
  exact⟨_,rfl,hf.slot t⟩
 |cell t ty=>
  simp only[cRes,Option.map_eq_some_iff]at hc
  obtain⟨n,hn,rfl⟩:=hc
  simp only[resL]at h
  have h0:=hf.slot t
  unfold loadL at h
  split at h
  ·rename_i b k hb
   rw[hb]at h0
   obtain⟨_,hp⟩:=h0.ptr_inv
   split at h
   ·rename_i cs hl
    obtain⟨u,hu,hv⟩:=run_loadRow hn (row_of_cells hI hl).2 h
    exact⟨u,by rw[Nat.zero_add]at hu;simp[resOf,hp,asAddr,hu],hv⟩
   ·rename_i sz cs hl
    obtain⟨u,hu,hv⟩:=run_loadRow hn (row_of_arr hI hl).2 h
    exact⟨u,by rw[Nat.zero_add]at hu;simp[resOf,hp,asAddr,hu],hv⟩
   ·simp at h
  ·rename_i cs k hb
   rw[hb]at h0
   obtain⟨b,base,hp,hR⟩:=row_of_cptr h0
   obtain⟨u,hu,hv⟩:=run_loadRow hn hR h
   exact⟨u,by simp[resOf,hp,asAddr,hu],hv⟩
  ·simp at h
theorem run_resList{N:Nat}{a:Act}(hI:Inv G w H)(hf:FR G w N fr a):∀{rs:List ResultVar}{bs:List BRes}{vs:List LV},rs.mapM (cRes P)=some bs->bs.mapM (resL H fr)=some vs ->
  ∃us:List Value,(rs.mapM (resOf P a.tmps)).run P w=.ok us w/\us.length=vs.length/\∀(i:Nat)(v:LV),vs[i]? = some v->VR G w v (us.getD i undef)
 |[],bs,vs,h1,h2=>by
  simp at h1;subst h1
  simp at h2;subst h2
  exact⟨[],rfl,rfl,fun i v h=>by simp at h⟩
 |r::rs,bs,vs,h1,h2=>by
  rw[List.mapM_cons]at h1
  cases hr:cRes P r with
  |none=>simp[hr]at h1
  |some b=>
   cases hrs:rs.mapM (cRes P) with
   |none=>simp[hr,hrs]at h1
   |some bs'=>
    simp[hr,hrs]at h1;subst h1
    rw[List.mapM_cons]at h2
    cases hv:resL H fr b with
    |none=>simp[hv]at h2
    |some v=>
     cases hvs:bs'.mapM (resL H fr) with
     |none=>simp[hv,hvs]at h2
     |some vs'=>
      simp[hv,hvs]at h2;subst h2
      obtain⟨u,hu,hV⟩:=run_result hI hf hr hv
      obtain⟨us,hus,hl,hVs⟩:=run_resList hI hf hrs hvs
      refine⟨u::us,?_,by simp[hl],fun i x hx=>?_⟩
      ·rw[List.mapM_cons,Sem.run_bind,hu,Result.andThen_ok,Sem.run_bind,hus,Result.andThen_ok]
       rfl
      ·cases i with
       |zero=>simp at hx;subst hx;simpa using hV
       |succ i=>simpa using hVs i x (by simpa using hx)
theorem run_results{N:Nat}{a:Act}{fn:Func}{bs:List BRes}{v:LV}(hI:Inv G w H)(hf:FR G w N fr a)(hc:fn.results.toList.mapM (cRes P)=some bs)(h:resultL H fr bs=some v):
  ∃u,(results fn a.tmps).run P w=.ok u w/\VR G w v u:=by
 have key:∀vs,bs.mapM (resL H fr)=some vs->∃us:List Value,(fn.results.mapM (resOf P a.tmps)).run P w=.ok us.toArray w/\us.length=vs.length/\∀(i:Nat)(v:LV),vs[i]? = some v->VR G w v (us.getD i undef):=by
  intro vs hvs
  obtain⟨us,hus,h1,h2⟩:=run_resList hI hf hc hvs
  refine⟨us,?_,h1,h2⟩
  rw[Array.mapM_eq_mapM_toList,map_eq_pure_bind,Sem.run_bind,hus,Result.andThen_ok]
  rfl
 have run:∀us:List Value,(fn.results.mapM (resOf P a.tmps)).run P w=.ok us.toArray w->(results fn a.tmps).run P w=.ok (if h:us.toArray.size=1 then us.toArray[0] else .tuple us.toArray) w:=by
  intro us hus
  rw[results_eq (P:=P),Sem.run_bind,hus,Result.andThen_ok]
  rfl
 unfold resultL at h
 split at h
 ·rename_i r
  obtain⟨us,h1,h2,h3⟩:=key [v] (by simp[h])
  refine⟨_,run us h1,?_⟩
  match us,h2 with
  |[u],_=>simpa using h3 0 v rfl
 ·rename_i hne
  obtain⟨vs,hvs,rfl⟩:=Option.map_eq_some_iff.1 h
  obtain⟨us,h1,h2,h3⟩:=key vs hvs
  refine⟨_,run us h1,?_⟩
  have hlen:us.length≠1:=by
   intro hl
   have hb:bs.length=vs.length:=by
    clear h key h3 h2 hne h1 run hc
    induction bs generalizing vs with
    |nil=>simp at hvs;subst hvs;rfl
    |cons b bs ih=>
     rw[List.mapM_cons]at hvs
     cases hb:resL H fr b with
     |none=>simp[hb]at hvs
     |some x=>
      cases hbs:bs.mapM (resL H fr) with
      |none=>simp[hb,hbs]at hvs
      |some xs=>simp[hb,hbs]at hvs;subst hvs;simp[ih xs hbs]
   match bs,(show bs.length=1 by omega) with
   |[b],_=>exact hne b rfl
  rw[dif_neg (by simpa using hlen)]
  refine .tup (by simp[h2]) fun i c hc=>?_
  have:=h3 i c hc
  simpa [Array.getD_eq_getD_getElem?,List.getD_eq_getElem?_getD] using this
end
end Go.Abs
namespace Go.Abs
open Go
def rcL(G:Ghost)(b:Bool)(fn:FuncId)(tmps:Array Value)(ps:List Nat)(k df:Nat):Loop:=
 { state:=if b then .busy else .ready,pending:=none,fn:=fn,tmps:=tmps,params:=ps.toArray,assign:=(G.rc k).1,body:=(G.rc k).2,defers:=df }
section
variable{G:Ghost}{w:World}{H:LHeap}
theorem Inv.rcd_turn{o:Nat}{b b':Bool}{fo:List LV}{ps:List Nat}{k:Nat}(hI:Inv G w H)(hl:look o H.objs=some (.rcd b fo ps k)):
  ∃fn tmps df,w.heap[G.loc o]? = some (.loop (rcL G b fn tmps ps k df))/\tmps.size=fo.length/\(∀(i:Nat)(x:LV),fo[i]? = some x->VR G w x (tmps.getD i undef)) /\
   Ext G w G (w.putObj (G.loc o) (.loop (rcL G b' fn tmps ps k df)))/\Inv G (w.putObj (G.loc o) (.loop (rcL G b' fn tmps ps k df))) (H.put o (.rcd b' fo ps k)):=by
 obtain⟨ho,fn,tmps,df,h1,h2,h3,h4,h5⟩:=hI.objs o _ hl
 refine⟨fn,tmps,df,h1,h4,h5,?_⟩
 exact hI.setObj (lo':=.rcd b' fo ps k) (ob':=.loop (rcL G b' fn tmps ps k df)) hl h1 (by simp) h2 h3 w.drawn (fun es' h=>by cases h) fun hx=>
  ⟨fn,tmps,df,heap_setObj h1 _,h2,h3,h4,fun i x hi=>(h5 i x hi).mono hx⟩
theorem Inv.rcd_left{P:Program}{o:Nat}{j:Option Nat}(hI:Inv G w H)(h:isR o true H=true):
  ∃w',(Instr.endRound (G.loc o) (some (jmpC j))).run P w=.ok (.bool false) w'/\Ext G w G w'/\Inv G w' (H.put o (.lft j)):=by
 obtain⟨fo,ps,k,hl,_⟩:=isR_spec (b':=false) h
 obtain⟨ho,fn,tmps,df,h1,h2,h3,h4,h5⟩:=hI.objs o _ hl
 have hend:=run_endRound (P:=P) (some (jmpC j)) h1
 refine⟨_,hend,hI.setObj (lo':=.lft j) hl h1 (by simp) h2 h3 w.drawn (fun es' h=>by cases h) fun hx=>?_⟩
 exact⟨⟨_,heap_setObj h1 _,rfl,rfl⟩,h2,h3⟩
theorem FR.args{fo:List LV}{tmps:Array Value}(h4:tmps.size=fo.length)(h5:∀(i:Nat) (x:LV),fo[i]? = some x->VR G w x (tmps.getD i undef)):FR G w fo.length (frOf fo) { tmps:=tmps,defers:=[] }:=by
 refine⟨h4,fun k=>?_⟩
 cases hk:fo[k]? with
 |none=>
  have:frOf fo k=.bot:=by simp[frOf,List.getD_eq_getElem?_getD,hk]
  rw[this];exact .bot _
 |some x=>
  have:frOf fo k=x:=by simp[frOf,List.getD_eq_getElem?_getD,hk]
  rw[this];exact h5 k x hk
theorem FR.setPs:∀{ps:List Nat}{vs:List LV}{us:List Value}{N:Nat}{fr:Fr}{tmps:Array Value},FR G w N fr { tmps:=tmps,defers:=[] }->(ps.all fun p=>decide (p<N))=true->us.length=vs.length ->
  (∀(i:Nat)(x:LV),vs[i]? = some x->VR G w x (us.getD i undef))->vs.length=ps.length ->
  FR G w N (setPs fr ps vs) { tmps:=(ps.zip us).foldl (fun t (p,v)=>t.setIfInBounds p v) tmps,defers:=[] }
 |[],[],[],_,_,_,hf,_,_,_,_=>hf
 |p::ps,v::vs,u::us,N,fr,tmps,hf,hp,hu,hv,hl=>by
  simp only[List.all_cons,Bool.and_eq_true]at hp
  refine FR.setPs (tmps:=tmps.setIfInBounds p u) (hf.put (d:=some p) (x:=v) (v:=u) (by simpa using hp.1) (by simpa using hv 0 v rfl)) hp.2 (by simpa using hu) (fun i x hi=>?_) (by simpa using hl)
  simpa using hv (i+1) x hi
 |[],_::_,_,_,_,_,_,_,_,_,hl=>by simp at hl
 |_::_,[],_,_,_,_,_,_,_,_,hl=>by simp at hl
 |_,_::_,[],_,_,_,_,_,hu,_,_=>by simp at hu
 |_,[],_::_,_,_,_,_,_,hu,_,_=>by simp at hu
end
section
variable{P:Program}{E:Env}{fr:Fr}{H:LHeap}{S:Res->Prop}{i:BI}{l:List BI}
theorem ops_yld{T1 T2:Res->Prop}{x:BO}{as:List BO}{o:Nat}{fo:List LV}{ps:List Nat}{k:Nat}{ba bb:BCode}(hw:wantedB fr i.g=some true)(hop:i.op=.cl x as)(hx:E.ev fr x=.fn (.yield o) [] [])
  (hl:look o H.objs=some (.rcd false fo ps k)) (hca:cCode P fo.length (E.rc k).1=some ba) (hcb:cCode P fo.length (E.rc k).2=some bb) (hlen:as.length=ps.length) (hps:(ps.all fun p=>decide (p<fo.length))=true)
  (h1:CodeWp P E ba (setPs (frOf fo) ps (evs E fr as)) H T1) (h2:∀e fr1 df1 H1,T1 (.code e fr1 df1 H1)->e=.normal/\isR o false H1=true)
  (h3:∀fr1 df1 H1,T1 (.code .normal fr1 df1 H1)->CodeWp P E bb fr1 (busyH o true H1) T2) (h4:∀e fr2 df2 H2,T2 (.code e fr2 df2 H2)->leaves e/\isR o true H2=true)
  (h5:∀fr2 df2 H2,T2 (.code .normal fr2 df2 H2)->OpsOk P E l (putD fr i.d (.bool true)) (busyH o false H2) S)
  (h6:∀j fr2 df2 H2,T2 (.code (exOf j) fr2 df2 H2)->OpsOk P E l (putD fr i.d (.bool false)) (H2.put o (.lft j)) S):OpsOk P E (i::l) fr H S:=by
 intro ro nf N ops ol G w a Q hm hI hE hf hQ
 obtain⟨o',ol,rfl,ho,hol⟩:=mapM_cons_inv hm
 obtain⟨c1,c2,c3,c4⟩:=cI_inv ho
 unfold wpListIn
 rw[if_pos (wanted_sound ho hw fun d u _=>hf.slot d)]
 rw[hop]at c1
 obtain⟨c,y,hoc,hcal,hy,has⟩:=inv_cl (c1 (by simp))
 have hv:=ev_VR hE hf y x hy
 rw[hx]at hv
 obtain⟨us0,vs0,hv,hu0,hv0,_,_⟩:=hv.fn_inv
 obtain rfl:us0=#[]:=Array.eq_empty_of_size_eq_zero (by simpa using hu0)
 obtain rfl:vs0=#[]:=Array.eq_empty_of_size_eq_zero (by simpa using hv0)
 obtain⟨fn,tmps,dfb,r1,r2,r3,_⟩:=hI.rcd_turn (b':=true) hl
 obtain⟨g6,h7⟩:=map_VR (ev_VR hE hf) has
 have hsz:(c.args.map a.eval).size=ps.length:=by rw[g6];simp[hlen]
 have hrun:(execOp a.eval o').run P w=.ok (.round (G.loc o) fn ((ps.zip (c.args.map a.eval).toList).foldl (fun t (p,v)=>t.setIfInBounds p v) tmps) (G.rc k).1 (G.rc k).2) w:=by
  have:=run_yield (P:=P) (args:=c.args.map a.eval) r1 (by simp[rcL,hsz])
  simp only[execOp,hoc,resolve,hcal,hv,fnW,Deferred.ofValue,Sem.run_bind,Sem.run_pure,invoke]
  refine Eq.trans ?_ (this.trans ?_)
  ·simp
  ·simp only[rcL]
   rw[<-Array.foldl_toList]
   simp
 have hd:∀c,o'.op≠.defer c:=fun c hc=>by rw[hoc]at hc;cases hc
 refine⟨fun _ _=>trivial,?_⟩
 rw[show (fen ro).round=ro from rfl,Oper.semAt_eq ro _ _ hd,hrun,Oper.uponIn_round]
 refine⟨fun h=>(by cases h),?_⟩
 refine roundIn_of_wpIn (F:=fen ro) trivial ?_
 have hF0:FR G w fo.length (setPs (frOf fo) ps (evs E fr as)) { tmps:=(ps.zip (c.args.map a.eval).toList).foldl (fun t (p,v)=>t.setIfInBounds p v) tmps,defers:=[] }:=by
  refine FR.setPs (FR.args r2 r3) hps (by simp[evs]at g6 ⊢;exact g6) (fun j z hz=>?_) (by simp[evs,hlen])
  have:=h7 j z (by simpa [evs] using hz)
  rw[Array.getD_eq_getD_getElem?]at this
  rw[List.getD_eq_getElem?_getD,Array.getElem?_toList]
  exact this
 refine h1 (some (G.loc o)) (nf - 1) fo.length (G.rc k).1 G w _ _ (by rw[hE.rc];exact hca) hI hE hF0 fun e a1 w1 hp=>?_
 obtain⟨le,fr1,df1,H1,G1,hT1,he,hI1,hf1,_,hx1⟩:=hp
 obtain⟨rfl,hr1⟩:=h2 _ _ _ _ hT1
 obtain⟨fo1,ps1,k1,hl1,hb1⟩:=isR_spec (b':=true) hr1
 cases e<;>try exact he.elim
 have hE1:=hE.mono hx1
 obtain⟨fn1,tmps1,dfb1,q1,_,_,q2,q3⟩:=hI1.rcd_turn (b':=true) hl1
 have hloc:G1.loc o=G.loc o:=hx1.loc o (hI.objs o _ hl).1
 refine⟨_,run_beginRound (by rw[<-hloc];exact q1) (by simp[rcL]),?_⟩
 rw[<-hloc]
 rw[<-hb1]at q3
 refine h3 _ _ _ hT1 (some (G1.loc o)) (nf - 1) fo.length (G.rc k).2 G1 _ _ _ (by rw[hE.rc];exact hcb) q3 (hE1.mono q2) (hf1.mono q2) fun e a2 w2 hp=>?_
 obtain⟨le,fr2,df2,H2,G2,hT2,he,hI2,hf2,_,hx2⟩:=hp
 obtain⟨hlv,hr2⟩:=h4 _ _ _ _ hT2
 have hloc2:G2.loc o=G1.loc o:=hx2.loc o (hI1.objs o _ hl1).1
 cases le with
 |pan v=>exact hlv.elim
 |normal=>
  obtain⟨fo2,ps2,k2,hl2,hb2⟩:=isR_spec (b':=false) hr2
  cases e<;>try exact he.elim
  obtain⟨fn2,tmps2,dfb2,p1,_,_,p2,p3⟩:=hI2.rcd_turn (b':=false) hl2
  have hend:=run_endRound (P:=P) none p1
  rw[hloc2]at hend p2 p3
  rw[<-hb2]at p3
  refine⟨_,_,hend,?_⟩
  have hxx:=((hx1.trans q2).trans hx2).trans p2
  refine h5 _ _ _ hT2 ro nf N ops ol G2 _ _ Q hol p3 (hE.mono hxx) ?_ (fun e a' w' hp=>hQ _ _ _ (.from hxx (by rwa [put_defers]at hp)))
  rw[c2]
  exact(hf.mono hxx).put c3 (.sc _)
 |ret=>
  cases e<;>try exact he.elim
  obtain⟨w4,hend,x4,i4⟩:=hI2.rcd_left (j:=none) hr2
  rw[hloc2]at hend
  refine⟨_,_,hend,?_⟩
  have hxx:=((hx1.trans q2).trans hx2).trans x4
  refine h6 none _ _ _ hT2 ro nf N ops ol G2 _ _ Q hol i4 (hE.mono hxx) ?_ (fun e a' w' hp=>hQ _ _ _ (.from hxx (by rwa [put_defers]at hp)))
  rw[c2]
  exact(hf.mono hxx).put c3 (.sc _)
 |exit n=>
  cases e<;>try exact he.elim
  obtain rfl:n=_:=he
  obtain⟨w4,hend,x4,i4⟩:=hI2.rcd_left (j:=some n) hr2
  rw[hloc2]at hend
  refine⟨_,_,hend,?_⟩
  have hxx:=((hx1.trans q2).trans hx2).trans x4
  refine h6 (some n) _ _ _ hT2 ro nf N ops ol G2 _ _ Q hol i4 (hE.mono hxx) ?_ (fun e a' w' hp=>hQ _ _ _ (.from hxx (by rwa [put_defers]at hp)))
  rw[c2]
  exact(hf.mono hxx).put c3 (.sc _)
end
end Go.Abs
namespace Go.Abs
open Go
section
variable{G G':Ghost}{w w':World}{H H':LHeap}
theorem look_dels{L:List Nat}{j:Nat}:∀{l:List (Nat×LObj)},look j (delsO L l)=if L.contains j=true then none else look j l
 |[]=>by simp[delsO,look]
 |(k,x)::r=>by
  simp only[delsO]
  by_cases h1:L.contains k=true
  ·rw[if_pos h1,look_dels]
   by_cases h2:j=k
   ·subst h2;simp only[h1,if_true]
   ·simp only[look,if_neg h2]
  ·rw[if_neg h1]
   by_cases h2:j=k
   ·subst h2
    simp only[look,if_true]
    rw[if_neg h1]
   ·simp only[look,if_neg h2]
    rw[look_dels]
theorem frzL_length{H:LHeap}{L:List Nat}:∀l:List LV,(frzL H L l).length=l.length
 |[]=>rfl
 |_::r=>by simp[frzL,frzL_length r]
theorem frzL_get{H:LHeap}{L:List Nat}:∀(l:List LV)(i:Nat),(frzL H L l)[i]? = (l[i]?).map (frzV H L)
 |[],_=>rfl
 |_::_,0=>rfl
 |_::r,i+1=>by simpa [frzL] using frzL_get r i
theorem frzL_map{H:LHeap}{L:List Nat}:∀l:List LV,frzL H L l=l.map (frzV H L)
 |[]=>rfl
 |_::r=>by simp[frzL,frzL_map r]
theorem frz_cells{H:LHeap}{L:List Nat}(x:LV):(frzV H L x).cells=x.cells.map (frzV H L):=by
 cases x with
 |asl a b c=>
  have h1:(LV.asl a b c).cells=[.asl a b c]:=rfl
  rw[h1,List.map_cons,List.map_nil]
  simp only[frzV]
  have h2:∀v:LV,(∀cs,v≠.agg cs)->v.cells=[v]:=by
   intro v hv
   cases v<;>first|rfl|exact absurd rfl (hv _)
  refine h2 _ fun cs hc=>?_
  unfold frzA at hc
  split at hc
  ·split at hc
   ·split at hc<;>cases hc
   ·cases hc
  ·cases hc
 |_=>simp[frzV,LV.cells,frzL_map]
theorem mkEl_cells(l:List LV):(mkEl l).cells=l:=by
 unfold mkEl
 split
 ·rfl
 ·rename_i c h
  cases c<;>simp_all [LV.cells]
 ·rfl
theorem chunks_length(sz:Nat):∀(n:Nat)(cs:List LV),(chunks sz n cs).length=n
 |0,_=>rfl
 |n+1,cs=>by simp[chunks,chunks_length sz n]
theorem chunks_get(sz:Nat):∀(n:Nat)(cs:List LV)(i:Nat)(e:LV),n*sz<=cs.length->(chunks sz n cs)[i]? = some e ->
  e.cells.length=sz/\∀(j:Nat)(c:LV),e.cells[j]? = some c->cs[i*sz+j]? = some c
 |0,cs,i,e,_,h=>by simp[chunks]at h
 |n+1,cs,0,e,hl,h=>by
  simp[chunks]at h
  subst h
  rw[mkEl_cells]
  rw[Nat.add_mul]at hl
  refine⟨by simp;omega,fun j c hc=>?_⟩
  rw[List.getElem?_take]at hc
  split at hc
  ·simpa using hc
  ·cases hc
 |n+1,cs,i+1,e,hl,h=>by
  simp only[chunks,List.getElem?_cons_succ]at h
  rw[Nat.add_mul]at hl
  obtain⟨h1,h2⟩:=chunks_get sz n (cs.drop sz) i e (by simp;omega) h
  refine⟨h1,fun j c hc=>?_⟩
  have:=h2 j c hc
  rw[List.getElem?_drop]at this
  rw[<-this]
  congr 1
  rw[Nat.add_mul];omega
def isArr(H:LHeap)(i:Nat):Bool:=match look i H.objs with
 |some (.arr _ _)=>true
 |_=>false
def Ghost.frz(G:Ghost)(H:LHeap)(L:List Nat):Ghost where
 B:=G.B
 n:=G.n
 loc:=G.loc
 asz:=G.asz
 tk:=G.tk
 own:=fun b x=>match G.own b x with
  |.obj i=>if L.contains i&&isArr H i then .cl else .obj i
  |l=>l
 rc:=G.rc
theorem Ext.frz(G:Ghost)(H:LHeap)(L:List Nat)(w:World):Ext G w (G.frz H L) w:=
 ⟨rfl,rfl,rfl,Nat.le_refl _,rfl,fun _ _=>rfl,Nat.le_refl _,fun _ _=>rfl,fun _ _=>rfl,fun b x h=>⟨by simp only[Ghost.frz,h],fun _ h=>h⟩,
  fun _ _ m b c h=>⟨m,b,c,h,Nat.le_refl _,fun _=>⟨rfl,rfl⟩⟩,rfl⟩
theorem Inv.frz(hI:Inv G w H)(L:List Nat):Inv (G.frz H L) w (H.dels L):=by
 have hd:∀i x,look i (H.dels L).objs=some x->L.contains i=false/\look i H.objs=some x:=by
  intro i x h
  simp only[LHeap.dels,look_dels]at h
  split at h
  ·cases h
  ·rename_i hc;exact⟨by simpa using hc,h⟩
 refine Inv.step (fun i=>L.contains i=true) hI (Ext.frz G H L w) (W:=fun _ _=>False) (V:=fun _=>False) ⟨fun k vs el fz h=>⟨vs,h,rfl,fun _ _=>rfl⟩,fun _ _ h _ _=>h⟩ hI.n
  (fun b x hb=>by simp only[Ghost.frz,hI.free b x hb]) (fun b x hb=>by simp only[Ghost.frz,hI.old b x hb]) (fun i x _ h=>(hd i x h).2) (fun _ _ _ _ _ h=>h) (fun _ _ _ h=>h)
  (fun i k x hi=>⟨fun h=>by simp only[Ghost.frz,h];rw[if_neg (by rw[Bool.and_eq_true];exact fun e=>hi e.1)],fun h=>by simp only[Ghost.frz,h]⟩) (fun _ _ _=>rfl) ?_ ?_
 ·intro m es' _ hm
  exact⟨es',(hd m _ hm).2,Nat.le_refl _,fun _ ents' clock' hh=>⟨ents',clock',hh,rfl,fun _=>rfl⟩⟩
 ·intro i x hi h
  have:=(hd i x h).1
  rw[hi]at this;cases this
theorem VR.frz(hI:Inv G w H)(L:List Nat){x:LV}{v:Value}(hv:VR G w x v):VR (G.frz H L) w (frzV H L x) v:=by
 have hcl:∀b y,G.Cl b y->(G.frz H L).Cl b y:=by
  intro b y h
  rcases h with h|h
  ·exact .inl h
  ·exact .inr (by simp only[Ghost.frz,h])
 have hown:∀{own:Own}{base:Option Addr}{len cap:Nat},OwnR G own base len cap->OwnR (G.frz H L) own base len cap:=fun h=>h
 induction hv with
 |sc v=>exact .sc v
 |bot v=>exact .bot v
 |agg hs _ h0 ih=>
  rw[frzV]
  refine .agg (by rw[frzL_length];exact hs) (fun i c hc=>?_) (fun i hi=>h0 i (by rwa [frzL_length]at hi))
  rw[frzL_get]at hc
  obtain⟨c',h1,rfl⟩:=Option.map_eq_some_iff.1 hc
  exact ih i c' h1
 |tup hs _ ih=>
  rw[frzV]
  refine .tup (by rw[frzL_length];exact hs) fun i c hc=>?_
  rw[frzL_get]at hc
  obtain⟨c',h1,rfl⟩:=Option.map_eq_some_iff.1 hc
  exact ih i c' h1
 |@sl es own b off sz cap xs hc hz hx _ ho ih=>
  rw[frzV]
  have hl:(frzL H L es).length=es.length:=frzL_length _
  rw[<-hl]
  refine .sl (sz:=sz) (xs:=xs) (by omega) (fun i e he=>?_) (fun i e j c h1 h2=>?_) (fun i e j c h1 h2=>?_) (by rw[hl];exact hown ho)
  ·rw[frzL_get]at he
   obtain⟨e',h1,rfl⟩:=Option.map_eq_some_iff.1 he
   rw[frz_cells,List.length_map];exact hz i e' h1
  ·rw[frzL_get]at h1
   obtain⟨e',h1',rfl⟩:=Option.map_eq_some_iff.1 h1
   rw[frz_cells,List.getElem?_map]at h2
   obtain⟨c',h2',rfl⟩:=Option.map_eq_some_iff.1 h2
   have:=hx i e' j c' h1' h2'
   exact⟨hcl _ _ this.1,this.2⟩
  ·rw[frzL_get]at h1
   obtain⟨e',h1',rfl⟩:=Option.map_eq_some_iff.1 h1
   rw[frz_cells,List.getElem?_map]at h2
   obtain⟨c',h2',rfl⟩:=Option.map_eq_some_iff.1 h2
   exact ih i e' j c' h1' h2'
 |sln ho=>exact .sln (hown ho)
 |sle a=>exact .sle a
 |@asl o off len cap ho hl hc=>
  rw[frzV,frzA]
  split
  ·rename_i hL
   split
   ·rename_i sz cs hlook
    split
    ·rename_i hfit
     obtain⟨_,vs,el,fz,h1,h2,h3,⟨ha1,ha2,ha3⟩,h4,h5,h6⟩:=hI.objs o _ hlook
     rw[ha1]
     rw[Nat.add_mul]at hfit
     have hcg:=chunks_get sz len (cs.drop (off*sz))
     have hlen:len*sz<=(cs.drop (off*sz)).length:=by simp;omega
     have hcell:∀(i:Nat)(e:LV)(j:Nat)(c:LV),(chunks sz len (cs.drop (off*sz)))[i]? = some e->e.cells[j]? = some c->cs[off*sz+i*sz+j]? = some c:=by
      intro i e j c he hc
      have:=(hcg i e hlen he).2 j c hc
      rw[List.getElem?_drop]at this
      rw[<-this];congr 1;omega
     have hcl2:=chunks_length sz len (cs.drop (off*sz))
     have:=VR.sl (G:=G.frz H L) (w:=w) (es:=chunks sz len (cs.drop (off*sz))) (own:=.no) (b:=G.loc o) (off:=off*sz) (sz:=sz) (cap:=cap) (xs:=fun i j=>vs.getD (off*sz+i*sz+j) undef)
      (by rw[hcl2];exact hl) (fun i e he=>(hcg i e hlen he).1) (fun i e j c he hc=>?_) (fun i e j c he hc=>?_) trivial
     ·rwa [hcl2]at this
     ·have hk:=hcell i e j c he hc
      have hlt:=lt_of_get hk
      refine⟨.inr ?_,?_,(h6 _ c hk).2⟩
      ·simp only[Ghost.frz]
       rw[h4 _]
       have:isArr H o=true:=by simp[isArr,hlook]
       simp only[hL,this,Bool.and_self,if_true]
      ·rw[cell?_cells h1]
       exact getD_some (by omega)
     ·exact(h6 _ c (hcell i e j c he hc)).1.mono (Ext.frz G H L w)
    ·exact .bot _
   ·exact .bot _
  ·exact .asl (G:=G.frz H L) ho hl hc
 |ptr ho=>exact .ptr (G:=G.frz H L) ho
 |@cptr cs off b base xs hx _ ih=>
  rw[frzV]
  refine .cptr (xs:=xs) (fun j c h1=>?_) (fun j c h1=>?_)
  ·rw[frzL_get]at h1
   obtain⟨e',h1',rfl⟩:=Option.map_eq_some_iff.1 h1
   have:=hx j e' h1'
   exact⟨hcl _ _ this.1,this.2⟩
  ·rw[frzL_get]at h1
   obtain⟨e',h1',rfl⟩:=Option.map_eq_some_iff.1 h1
   exact ih j e' h1'
 |map ho=>exact .map (G:=G.frz H L) ho
 |fn hf h1 h2 _ _ ih1 ih2=>
  rw[frzV]
  refine .fn (G:=G.frz H L) hf (by rw[frzL_length];exact h1) (by rw[frzL_length];exact h2) (fun i c hc=>?_) (fun i c hc=>?_)
  ·rw[frzL_get]at hc
   obtain⟨c',h1,rfl⟩:=Option.map_eq_some_iff.1 hc
   exact ih1 i c' h1
  ·rw[frzL_get]at hc
   obtain⟨c',h1,rfl⟩:=Option.map_eq_some_iff.1 hc
   exact ih2 i c' h1
 |iface _ ih=>exact .iface ih
end
end Go.Abs
namespace Go.Abs
open Go
structure FnsOk(P:Program)(E:Env)(F:Fns):Prop where
 fn:∀f b,F.fn f b->∃fn,P.funcs[f]? = some fn/\cFn P fn=some b/\fn.name ≠ "runtime.NumGoroutine"
 prim:∀f args H S,F.prim f args H S->CallOk P E f args H S
 rng:∀k N ba bb,F.rng k N ba bb->cCode P N (E.rc k).1=some ba/\cCode P N (E.rc k).2=some bb:=by intro _ _ _ _ h;exact absurd h (fun h=>h)
section
variable{P:Program}{E:Env}{fr:Fr}{H:LHeap}{S T:Res->Prop}
theorem CodePost.weaken{G:Ghost}{w:World}{N:Nat}{ds:List Deferred}{e:Exit}{a':Act}{w':World}(hST:∀r,T r->S r)(h:CodePost G w N ds T e a' w'):CodePost G w N ds S e a' w':=by
 obtain⟨le,fr',df',H',G',h1,h2⟩:=h
 exact⟨le,fr',df',H',G',hST _ h1,h2⟩
theorem CodeOk.weaken{c:BCode}(hST:∀r,T r->S r)(h:CodeOk P E c fr H T):CodeOk P E c fr H S where
 wp ro nf N code G w a Q hc hI hE hf hQ:=h.wp ro nf N code G w a Q hc hI hE hf fun e a' w' hp=>hQ _ _ _ (hp.weaken hST)
 ops l e ro nf N ops ol G w a Q hc hI hE hf hQ:=h.ops l e ro nf N ops ol G w a Q hc hI hE hf fun e a' w' hp=>hQ _ _ _ (hp.weaken hST)
 drw l e ro nf N ops done all x fr0 listed ea B0 G w a Q fuel h1 h2 h3 h4 h5 h6 h7 hQ:=h.drw l e ro nf N ops done all x fr0 listed ea B0 G w a Q fuel h1 h2 h3 h4 h5 h6 h7 fun e a' w' hp=>hQ _ _ _ (hp.weaken hST)
 loop b e ro nf N code G w a Q hc hI hE hf hQ:=h.loop b e ro nf N code G w a Q hc hI hE hf fun e a' w' hp=>hQ _ _ _ (hp.weaken hST)
theorem CallOk.weaken{f:FuncId}{args:List LV}(hST:∀r,T r->S r)(h:CallOk P E f args H T):CallOk P E f args H S:=by
 refine⟨h.1,fun G w us hI hE ha=>(h.2 G w us hI hE ha).mono fun e w' hp=>?_⟩
 cases e with
 |returned u=>obtain⟨v,H',G',h1,h2⟩:=hp;exact⟨v,H',G',hST _ h1,h2⟩
 |panicked ch=>obtain⟨v,u,H',G',h1,h2⟩:=hp;exact⟨v,u,H',G',hST _ h1,h2⟩
 |outgrown=>exact hp.elim
theorem CodeOk.weakFrom{c:BCode}{fr':Fr}{H':LHeap}(hne:∀l,c≠.drw l)(hfw:FWk fr fr')(hhw:HWk H H')(h:CodeOk P E c fr' H' S):CodeOk P E c fr H S where
 wp ro nf N code G w a Q hc hI hE hf hQ:=h.wp ro nf N code G w a Q hc (hI.wk hhw) hE (hf.wk hfw) hQ
 ops l e ro nf N ops ol G w a Q hc hI hE hf hQ:=h.ops l e ro nf N ops ol G w a Q hc (hI.wk hhw) hE (hf.wk hfw) hQ
 drw l e:=absurd e (hne l)
 loop b e ro nf N code G w a Q hc hI hE hf hQ:=h.loop b e ro nf N code G w a Q hc (hI.wk hhw) hE (hf.wk hfw) hQ
theorem CallOk.weakFrom{f:FuncId}{args args':List LV}{H':LHeap}(hlen:args'.length=args.length)(hfw:FWk (frOf args) (frOf args'))(hhw:HWk H H')(h:CallOk P E f args' H' S):CallOk P E f args H S:=by
 refine⟨h.1,fun G w us hI hE ha=>h.2 G w us (hI.wk hhw) hE ⟨by rw[ha.1,hlen],fun i x hx=>?_⟩⟩
 have hlt:=lt_of_get hx
 rw[hlen]at hlt
 have h1:=ha.2 i _ (List.getElem?_eq_getElem hlt)
 have h2:=hfw i
 have e1:frOf args i=args[i]:=by simp[frOf,List.getD_eq_getElem?_getD,List.getElem?_eq_getElem hlt]
 have e2:frOf args' i=x:=by simp[frOf,List.getD_eq_getElem?_getD,hx]
 rw[e1,e2]at h2
 exact h1.wk h2
theorem drw_eff_all{i:BI}{p:List BI}{l:List (BI×List BI)}{v:LV}{H':LHeap}(hw:wantedB fr i.g=some true)(hv:effR E fr H i.op v H')(hp:PendOk E fr H' p)(ih:DrwOk P E l (putD fr i.d v) H' S):
  DrwOk P E ((i,p)::l) fr H S:=by
 by_cases hms:∃z n,i.op=.ms z n
 ·obtain⟨z,n,hms⟩:=hms
  intro ro nf N ops done all x fr0 listed ea B0 G w a Q fuel hg D
  cases hg with
  |cons hd _=>
   have hk:=hd.facts.kind
   simp[hms,BOp.isVal,BOp.isEff]at hk
 ·exact drw_eff hw hv (fun z n h=>hms ⟨z,n,h⟩) hp ih
theorem cFn_inv{fn:Func}{b:BFn}(h:cFn P fn=some b):∃c,fn.body=some c/\cCode P fn.ntmps c=some b.body/\b.n=fn.ntmps/\fn.results.toList.mapM (cRes P)=some b.res:=by
 simp only[cFn,Option.bind_eq_bind,Option.bind_eq_some_iff,Option.some.injEq]at h
 obtain⟨c,h1,x,h2,rs,h3,rfl⟩:=h
 exact⟨c,h1,h2,rfl,h3⟩
theorem args_FR{args:List LV}{G:Ghost}{w:World}{us:Array Value}{n:Nat}(ha:ArgsR G w args us)(hn:args.length<=n):
  FR G w n (frOf args) { tmps:=us++Array.replicate (n - us.size) undef,defers:=[] }:=by
 refine⟨by simp[ha.1];omega,fun k=>?_⟩
 by_cases hk:k<args.length
 ·have h1:=ha.2 k _ (List.getElem?_eq_getElem hk)
  have e1:frOf args k=args[k]:=by simp[frOf,List.getD_eq_getElem?_getD,List.getElem?_eq_getElem hk]
  rw[e1]
  simp only
  rw[Array.getD_eq_getD_getElem?,Array.getElem?_append_left (by rw[ha.1];exact hk),<-Array.getD_eq_getD_getElem?]
  exact h1
 ·have e1:frOf args k=.bot:=by
   have:args[k]? = none:=List.getElem?_eq_none (by omega)
   simp[frOf,List.getD_eq_getElem?_getD,this]
  rw[e1]
  exact .bot _
theorem ok_enter{F:Fns}{f:FuncId}{args:List LV}{b:BFn}(hF:FnsOk P E F)(hfn:F.fn f b)(hn:args.length<=b.n)(h:CodeOk P E b.body (frOf args) H T)
  (hret:∀fr df H',T (.code .ret fr df H')\/T (.code .normal fr df H')->df=[]/\∃v v' H'',resultL H' fr b.res=some v/\Wk v v'/\HWk H' H''/\S (.ret v' H''))
  (hpan:∀v fr df H',T (.code (.pan v) fr df H')->df=[]/\∃v' H'',Wk v v'/\HWk H' H''/\S (.pan v' H''))
  (hex:∀n fr df H',¬T (.code (.exit n) fr df H')):CallOk P E f args H S:=by
 obtain⟨fn,hf,hc,hname⟩:=hF.fn _ _ hfn
 obtain⟨c,hb,hcode,hbn,hres⟩:=cFn_inv hc
 refine⟨⟨fn,hf,by simp[hb],hname⟩,fun G w us hI hE ha=>calls_of_wp hf hb (wpIn_wide (n:=0).1 (h.wp none 0 fn.ntmps c G w _ _ hcode hI hE (args_FR ha (hbn▸hn)) fun e a' w' hp=>?_))⟩
 obtain⟨le,fr',df',H',G',hT,he,hI',hf',hd,hx⟩:=hp
 rcases he.cases with⟨rfl,rfl⟩|⟨n,rfl,rfl⟩|⟨rfl,rfl⟩|⟨v,ch,rfl,rfl⟩
 ·obtain⟨_,v,v',H'',h1,h2,h3,h4⟩:=hret _ _ _ (.inr hT)
  obtain⟨u,hu,hv⟩:=run_results hI' hf' hres h1
  exact⟨hd,u,hu,v',H'',G',h4,hv.wk h2,hI'.wk h3,hx⟩
 ·exact(hex _ _ _ _ hT).elim
 ·obtain⟨_,v,v',H'',h1,h2,h3,h4⟩:=hret _ _ _ (.inl hT)
  obtain⟨u,hu,hv⟩:=run_results hI' hf' hres h1
  exact⟨hd,u,hu,v',H'',G',h4,hv.wk h2,hI'.wk h3,hx⟩
 ·obtain⟨_,v',H'',h2,h3,h4⟩:=hpan _ _ _ _ hT
  obtain⟨u,rfl,hv⟩:=he
  exact⟨hd,v',u,H'',G',h4,rfl,hv.wk h2,hI'.wk h3,hx⟩
theorem Inv.toUm{G:Ghost}{w:World}(hI:Inv G w H){o:Nat}{es es':List (LV×LV)}(hl:look o H.objs=some (.map es))(hp:es.Perm es'):Inv G w (H.put o (.um es')) where
 n:=hI.n
 hB:=hI.hB
 free:=hI.free
 old:=hI.old
 objs i x hx:=by
  rw[look_put hl]at hx
  by_cases hi:i=o
  ·subst hi
   rw[if_pos rfl]at hx
   simp at hx;subst hx
   exact⟨(hI.objs i _ hl).1,es,hp,(hI.objs i _ hl).2⟩
  ·rw[if_neg hi]at hx
   obtain⟨h1,h2⟩:=hI.objs i x hx
   have hd:∀m y,look m (H.put o (.um es')).objs=some (.map y)->look m H.objs=some (.map y):=fun m y hy=>by
    rw[look_put hl]at hy
    split at hy
    ·cases hy
    ·exact hy
   refine⟨h1,?_⟩
   cases x with
   |cells=>exact h2
   |arr=>exact h2
   |map=>exact h2
   |um=>exact h2
   |tok=>exact h2
   |bld=>exact h2
   |rcd=>exact h2
   |dfr=>exact h2
   |lft=>exact h2
   |iter m left cur n=>
    obtain⟨a,b,c⟩:=h2
    refine⟨a,b,?_⟩
    split
    ·rename_i he;rw[if_pos he]at c;exact c
    ·rename_i he;rw[if_neg he]at c
     obtain⟨seen,stepped,c1,c2,c3,c4,c5⟩:=c
     exact⟨seen,stepped,c1,c2,c3,fun es hl=>c4 es (hd _ _ hl),fun es hl=>c5 es (hd _ _ hl)⟩
theorem Inv.ofUm{G:Ghost}{w:World}(hI:Inv G w H){o:Nat}{es:List (LV×LV)}(hl:look o H.objs=some (.um es))(hno:∀i m l k n,look i H.objs=some (.iter m l k n)->m≠o):
  ∃es',es'.Perm es/\Inv G w (H.put o (.map es')):=by
 obtain⟨h0,es',hp,hM⟩:=hI.objs o _ hl
 refine⟨es',hp,hI.n,hI.hB,hI.free,hI.old,fun i x hx=>?_⟩
 rw[look_put hl]at hx
 by_cases hi:i=o
 ·subst hi
  rw[if_pos rfl]at hx
  simp at hx;subst hx
  exact⟨h0,hM⟩
 ·rw[if_neg hi]at hx
  obtain⟨h1,h2⟩:=hI.objs i x hx
  refine⟨h1,?_⟩
  cases x with
  |cells=>exact h2
  |arr=>exact h2
  |map=>exact h2
  |um=>exact h2
  |tok=>exact h2
  |bld=>exact h2
  |rcd=>exact h2
  |dfr=>exact h2
  |lft=>exact h2
  |iter m left cur n=>
   have hmo:=hno _ _ _ _ _ hx
   have hd:∀y,look m (H.put o (.map es')).objs=some (.map y)->look m H.objs=some (.map y):=fun y hy=>by
    rw[look_put hl,if_neg hmo]at hy
    exact hy
   obtain⟨a,b,c⟩:=h2
   refine⟨a,b,?_⟩
   split
   ·rename_i he;rw[if_pos he]at c;exact c
   ·rename_i he;rw[if_neg he]at c
    obtain⟨seen,stepped,c1,c2,c3,c4,c5⟩:=c
    exact⟨seen,stepped,c1,c2,c3,fun es hl=>c4 es (hd _ hl),fun es hl=>c5 es (hd _ hl)⟩
theorem FR.frz{G:Ghost}{w:World}{N:Nat}{a:Act}(hI:Inv G w H)(L:List Nat)(hf:FR G w N fr a):FR (G.frz H L) w N (fun k=>frzV H L (fr k)) a:=
 ⟨hf.size,fun k=>(hf.slot k).frz hI L⟩
theorem CodeOk.frzC{c:BCode}(L:List Nat)(hne:∀l,c≠.drw l)(h:CodeOk P E c (fun k=>frzV H L (fr k)) (H.dels L) S):CodeOk P E c fr H S where
 wp ro nf N code G w a Q hc hI hE hf hQ:=h.wp ro nf N code (G.frz H L) w a Q hc (hI.frz L) (hE.mono (Ext.frz G H L w)) (hf.frz hI L) fun e a' w' hp=>hQ _ _ _ (.from (Ext.frz G H L w) hp)
 ops l e ro nf N ops ol G w a Q hc hI hE hf hQ:=h.ops l e ro nf N ops ol (G.frz H L) w a Q hc (hI.frz L) (hE.mono (Ext.frz G H L w)) (hf.frz hI L) fun e a' w' hp=>hQ _ _ _ (.from (Ext.frz G H L w) hp)
 drw l e:=absurd e (hne l)
 loop b e ro nf N code G w a Q hc hI hE hf hQ:=h.loop b e ro nf N code (G.frz H L) w a Q hc (hI.frz L) (hE.mono (Ext.frz G H L w)) (hf.frz hI L) fun e a' w' hp=>hQ _ _ _ (.from (Ext.frz G H L w) hp)
theorem CodeOk.toUm{c:BCode}{o:Nat}{es es':List (LV×LV)}(hne:∀l,c≠.drw l)(hl:look o H.objs=some (.map es))(hp:es.Perm es')(h:CodeOk P E c fr (H.put o (.um es')) S):CodeOk P E c fr H S where
 wp ro nf N code G w a Q hc hI hE hf hQ:=h.wp ro nf N code G w a Q hc (hI.toUm hl hp) hE hf hQ
 ops l e ro nf N ops ol G w a Q hc hI hE hf hQ:=h.ops l e ro nf N ops ol G w a Q hc (hI.toUm hl hp) hE hf hQ
 drw l e:=absurd e (hne l)
 loop b e ro nf N code G w a Q hc hI hE hf hQ:=h.loop b e ro nf N code G w a Q hc (hI.toUm hl hp) hE hf hQ
theorem CodeOk.ofUm{c:BCode}{o:Nat}{es:List (LV×LV)}(hne:∀l,c≠.drw l)(hl:look o H.objs=some (.um es))(hno:∀i m l k n,look i H.objs=some (.iter m l k n)->m≠o)
  (h:∀es',es'.Perm es->CodeOk P E c fr (H.put o (.map es')) S):CodeOk P E c fr H S where
 wp ro nf N code G w a Q hc hI hE hf hQ:=by
  obtain⟨es',hp,hI'⟩:=hI.ofUm hl hno
  exact(h es' hp).wp ro nf N code G w a Q hc hI' hE hf hQ
 ops l e ro nf N ops ol G w a Q hc hI hE hf hQ:=by
  obtain⟨es',hp,hI'⟩:=hI.ofUm hl hno
  exact(h es' hp).ops l e ro nf N ops ol G w a Q hc hI' hE hf hQ
 drw l e:=absurd e (hne l)
 loop b e ro nf N code G w a Q hc hI hE hf hQ:=by
  obtain⟨es',hp,hI'⟩:=hI.ofUm hl hno
  exact(h es' hp).loop b e ro nf N code G w a Q hc hI' hE hf hQ
end
theorem sound{P:Program}{E:Env}{F:Fns}(hmix:P.follows .mixedOrders=true)(hF:FnsOk P E F){j:Job}{S:Res->Prop}(h:Out E F j S):JobOk P E j S:=by
 induction h with
 |skip hS=>
  refine .plain (fun ro nf N code G w a Q hc hI hE hf hQ=>?_) (fun l e=>by cases e) (fun l e=>by cases e) fun l e=>by cases e
  obtain rfl:=cCode_skip hc
  exact wpIn_skip (hQ _ _ _ ⟨.normal,_,_,_,G,hS,trivial,hI,hf,rfl,Ext.refl _ _⟩)
 |nil hS=>exact(ops_nil hS).code
 |pass hw _ ih=>exact(ops_pass hw (ih.ops _ rfl)).code
 |val hw hv _ ih=>exact(ops_yield (valB_nb hv) hw fun G w ρ o hI hρ hρc hc=>⟨_,_,valB_sound hI hρ hρc hc hv,ih.ops _ rfl⟩).code
 |eff hw hv _ ih=>exact(ops_yield (effR_nb hv) hw fun G w ρ o hI hρ hρc hc=>⟨_,_,effR_sound hI hρ hc hv,ih.ops _ rfl⟩).code
 |next_done hw hop hx hl hm _ ih=>
  refine(ops_yield (by rw[hop];simp) hw fun G w ρ o hI hρ hρc hc=>?_).code
  rw[hop]at hc
  obtain⟨y,hy,hcy⟩:=inv_nx hc
  exact⟨_,_,val_nx_done hI hρ hy hcy hx hl hm,ih.ops _ rfl⟩
 |next_some hw hop hx hl hne hm hn _ ih=>
  refine(ops_yield (by rw[hop];simp) hw fun G w ρ o hI hρ hρc hc=>?_).code
  rw[hop]at hc
  obtain⟨y,hy,hcy⟩:=inv_nx hc
  obtain⟨j,p,kv,h1,h2,h3⟩:=eff_nx hI hρ hy hcy hx hl hne hm hn
  exact⟨_,_,h3,(ih j p kv h1 h2).ops _ rfl⟩
 |call hw hc _ _ hpan ih1 ih2=>exact(ops_call hw hc ih1 (fun v H' hT=>(ih2 v H' hT).ops _ rfl) hpan).code
 |yld hw hop hx hl hr hlen hps _ hn1 _ hn2 _ _ ih1 ih2 ih3 ih4=>
  obtain⟨ca,cb⟩:=hF.rng _ _ _ _ hr
  exact(ops_yld hw hop hx hl ca cb hlen hps ih1.wp hn1 (fun fr1 df1 H1 hT=>(ih2 fr1 df1 H1 hT).wp) hn2 (fun fr2 df2 H2 hT=>(ih3 fr2 df2 H2 hT).ops _ rfl) (fun j fr2 df2 H2 hT=>(ih4 j fr2 df2 H2 hT).ops _ rfl)).code
 |pan hw hop hx hS=>exact(ops_pan hw hop hx hS).code
 |drw_nil hS=>exact(drw_nil hS).code hmix
 |drw_pass hw _ ih=>exact(drw_wait (.inr ⟨hw,rfl⟩) (ih.drw _ rfl)).code hmix
 |drw_val hw hv _ ih=>exact(drw_wait (.inl ⟨hw,hv⟩) (ih.drw _ rfl)).code hmix
 |drw_eff hw hv hp _ ih=>exact(drw_eff_all hw hv hp (ih.drw _ rfl)).code hmix
 |drw_call hw hc _ hp _ hpan ih1 ih2=>exact(drw_call hw hc ih1 hp (fun v H' hT=>(ih2 v H' hT).drw _ rfl) hpan).code hmix
 |seq _ _ ho ih1 ih2=>exact ok_seq ih1 ih2 ho
 |cond_t hc _ ih=>
  refine .plain (fun ro nf N code G w a Q hcc hI hE hf hQ=>?_) (fun l e=>by cases e) (fun l e=>by cases e) fun l e=>by cases e
  obtain⟨d,x,y,rfl,hd,h1,h2⟩:=cCode_cond hcc
  have hv:=ev_VR hE hf d _ hd
  rw[hc]at hv
  exact wpIn_cond_true hv.sc_inv (ih.wp ro nf N x G w a Q h1 hI hE hf hQ)
 |cond_f hc _ ih=>
  refine .plain (fun ro nf N code G w a Q hcc hI hE hf hQ=>?_) (fun l e=>by cases e) (fun l e=>by cases e) fun l e=>by cases e
  obtain⟨d,x,y,rfl,hd,h1,h2⟩:=cCode_cond hcc
  have hv:=ev_VR hE hf d _ hd
  rw[hc]at hv
  exact wpIn_cond_false hv.sc_inv (ih.wp ro nf N y G w a Q h2 hI hE hf hQ)
 |blk _ hn he ho ih=>exact ok_blk ih hn he ho
 |loop _ _ ho ih1 ih2=>exact ok_loop ih1 ih2 ho
 |exit hS=>
  refine .plain (fun ro nf N code G w a Q hc hI hE hf hQ=>?_) (fun l e=>by cases e) (fun l e=>by cases e) fun l e=>by cases e
  obtain rfl:=cCode_exit hc
  exact wpIn_exit (hQ _ _ _ ⟨.exit _,_,_,_,G,hS,rfl,hI,hf,rfl,Ext.refl _ _⟩)
 |ret hS=>
  refine .plain (fun ro nf N code G w a Q hc hI hE hf hQ=>?_) (fun l e=>by cases e) (fun l e=>by cases e) fun l e=>by cases e
  obtain rfl:=cCode_ret hc
  exact wpIn_ret (hQ _ _ _ ⟨.ret,_,_,_,G,hS,trivial,hI,hf,rfl,Ext.refl _ _⟩)
 |weak hne hfw hhw _ ih=>exact CodeOk.weakFrom hne hfw hhw ih
 |toUm hne hl hp _ ih=>exact CodeOk.toUm hne hl hp ih
 |frzC L hne _ ih=>exact CodeOk.frzC L hne ih
 |ofUm hne hl hno _ ih=>exact CodeOk.ofUm hne hl hno ih
 |weakArgs hlen hfw hhw _ ih=>exact CallOk.weakFrom hlen hfw hhw ih
 |mono _ hST ih=>
  rename_i j S T _
  cases j with
  |code c fr df H=>exact CodeOk.weaken hST ih
  |call f args H=>exact CallOk.weaken hST ih
 |prim hp=>exact hF.prim _ _ _ _ hp
 |frz L _ hret hpan ih=>
  refine⟨ih.1,fun G w us hI hE ha=>(ih.2 G w us hI hE ha).mono fun e w' hp=>?_⟩
  cases e with
  |returned u=>
   obtain⟨v,H',G',h1,h2,h3,h4⟩:=hp
   obtain⟨H'',k1,k2⟩:=hret v H' h1
   exact⟨_,H'',G'.frz H' (L v H'),k2,h2.frz h3 _,(h3.frz _).wk k1,h4.trans (Ext.frz _ _ _ _)⟩
  |panicked ch=>
   obtain⟨v,u,H',G',h1,h2⟩:=hp
   exact⟨v,u,H',G',hpan v H' h1,h2⟩
  |outgrown=>exact hp.elim
 |enter hfn hn _ hret hpan hex ih=>exact ok_enter hF hfn hn ih hret hpan hex
end Go.Abs
namespace Go.Abs
open Go
inductive FT where
 |nil
 |nd (v:LV) (l r:FT)
noncomputable def FT.get(t:FT):Nat->LV:=
 @FT.rec (fun _=>Nat->LV) (fun _=>.bot) (fun v _ _ gl gr k=>@Bool.rec (fun _=>LV) (@Bool.rec (fun _=>LV) (gr (Nat.sub (Nat.div k 2) 1)) (gl (Nat.div k 2)) (Nat.beq (Nat.mod k 2) 1)) v (Nat.beq k 0)) t
noncomputable def FT.setK(t:FT):Nat->LV->(FT->Bool)->Bool:=
 @FT.rec (fun _=>Nat->LV->(FT->Bool)->Bool) (fun _ _ _=>false)
  (fun v l r sl sr k x c=>@Bool.rec (fun _=>Bool) (@Bool.rec (fun _=>Bool) (sr (Nat.sub (Nat.div k 2) 1) x fun r'=>c (.nd v l r')) (sl (Nat.div k 2) x fun l'=>c (.nd v l' r)) (Nat.beq (Nat.mod k 2) 1)) (c (.nd x l r)) (Nat.beq k 0)) t
noncomputable def FT.full:Nat->FT:=fun n=>@Nat.rec (fun _=>FT) .nil (fun _ t=>.nd .bot t t) n
noncomputable def FT.args(l:List LV):Nat->FT->(FT->Bool)->Bool:=
 @List.rec LV (fun _=>Nat->FT->(FT->Bool)->Bool) (fun _ t k=>k t) (fun v _ ih n t k=>t.setK n v fun t'=>ih (Nat.succ n) t' k) l
theorem FT.get_node(v:LV)(l r:FT)(k:Nat):(FT.nd v l r).get k=if k=0 then v else if k % 2=1 then l.get (k / 2) else r.get (k / 2 - 1):=by
 show @Bool.rec (fun _=>LV) (@Bool.rec (fun _=>LV) (r.get (k / 2 - 1)) (l.get (k / 2)) (Nat.beq (k % 2) 1)) v (Nat.beq k 0)=_
 by_cases h0:k=0
 ·subst h0;rfl
 ·have e0:Nat.beq k 0=false:=by cases k;exact absurd rfl h0;rfl
  rw[e0,if_neg h0]
  by_cases h1:k % 2=1
  ·have e1:Nat.beq (k % 2) 1=true:=by rw[h1];rfl
   rw[e1,if_pos h1]
  ·have e1:Nat.beq (k % 2) 1=false:=by
    have:k % 2=0:=by omega
    rw[this];rfl
   rw[e1,if_neg h1]
theorem FT.setK_node(v:LV)(l r:FT)(k:Nat)(x:LV)(c:FT->Bool):(FT.nd v l r).setK k x c=if k=0 then c (.nd x l r) else if k % 2=1 then l.setK (k / 2) x (fun l'=>c (.nd v l' r)) else r.setK (k / 2 - 1) x (fun r'=>c (.nd v l r')):=by
 show @Bool.rec (fun _=>Bool) (@Bool.rec (fun _=>Bool) (r.setK (k / 2 - 1) x (fun r'=>c (.nd v l r'))) (l.setK (k / 2) x (fun l'=>c (.nd v l' r))) (Nat.beq (k % 2) 1)) (c (.nd x l r)) (Nat.beq k 0)=_
 by_cases h0:k=0
 ·subst h0;rfl
 ·have e0:Nat.beq k 0=false:=by cases k;exact absurd rfl h0;rfl
  rw[e0,if_neg h0]
  by_cases h1:k % 2=1
  ·have e1:Nat.beq (k % 2) 1=true:=by rw[h1];rfl
   rw[e1,if_pos h1]
  ·have e1:Nat.beq (k % 2) 1=false:=by
    have:k % 2=0:=by omega
    rw[this];rfl
   rw[e1,if_neg h1]
theorem FT.setK_spec{t:FT}:∀{k:Nat}{x:LV}{c:FT->Bool},t.setK k x c=true->∃t',c t'=true/\t'.get=upd t.get k x:=by
 induction t with
 |nil=>intro k x c h;cases h
 |nd v l r ihl ihr=>
  intro k x c h
  rw[FT.setK_node]at h
  split at h
  ·rename_i h0
   refine⟨_,h,funext fun j=>?_⟩
   rw[FT.get_node]
   simp only[upd,FT.get_node]
   by_cases hj:j=k
   ·rw[if_pos hj,if_pos (by omega)]
   ·subst h0;simp[hj]
  ·rename_i h0
   split at h
   ·rename_i h1
    obtain⟨l',h2,h3⟩:=ihl h
    refine⟨_,h2,funext fun j=>?_⟩
    rw[FT.get_node]
    simp only[upd,FT.get_node,h3]
    by_cases hj:j=k
    ·subst hj
     simp[h0,h1]
    ·rw[if_neg hj]
     by_cases hj0:j=0
     ·simp[hj0]
     ·by_cases hj1:j % 2=1
      ·have:j / 2≠k / 2:=by omega
       simp[hj0,hj1,this]
      ·simp[hj0,hj1]
   ·rename_i h1
    obtain⟨r',h2,h3⟩:=ihr h
    refine⟨_,h2,funext fun j=>?_⟩
    rw[FT.get_node]
    simp only[upd,FT.get_node,h3]
    by_cases hj:j=k
    ·subst hj
     simp[h0,h1]
    ·rw[if_neg hj]
     by_cases hj0:j=0
     ·simp[hj0]
     ·by_cases hj1:j % 2=1
      ·simp[hj0,hj1]
      ·have:j / 2 - 1≠k / 2 - 1:=by omega
       simp[hj0,hj1,this]
theorem FT.full_get(n:Nat):(FT.full n).get=fun _=>.bot:=by
 induction n with
 |zero=>rfl
 |succ n ih=>
  funext k
  show (FT.nd .bot (FT.full n) (FT.full n)).get k=_
  rw[FT.get_node,ih]
  split
  ·rfl
  ·split<;>rfl
theorem FT.args_spec:∀{l:List LV}{n:Nat}{t:FT}{k:FT->Bool},FT.args l n t k=true->∃t',k t'=true/\∀j,t'.get j=if n<=j/\j<n+l.length then l.getD (j - n) .bot else t.get j
 |[],n,t,k,h=>⟨t,h,fun j=>by rw[if_neg (by simp only[List.length_nil];omega)]⟩
 |v::l,n,t,k,h=>by
  obtain⟨t1,h1,h2⟩:=FT.setK_spec h
  obtain⟨t2,h3,h4⟩:=FT.args_spec (l:=l) h1
  refine⟨t2,h3,fun j=>?_⟩
  rw[h4 j,h2]
  simp only[upd,List.length_cons]
  by_cases hj:j=n
  ·subst hj
   rw[if_neg (by omega),if_pos rfl,if_pos (by omega)]
   simp
  ·by_cases hin:n+1<=j/\j<n+1+l.length
   ·rw[if_pos (by omega),if_pos (by omega)]
    obtain⟨m,hm⟩:∃m,j - n=m+1:=⟨j - n - 1,by omega⟩
    rw[hm,show j - (n+1)=m by omega]
    rfl
   ·rw[if_neg (by omega),if_neg hj,if_neg (by omega)]
theorem FT.args_fr{l:List LV}{d:Nat}{k:FT->Bool}(h:FT.args l 0 (FT.full d) k=true):∃t',k t'=true/\t'.get=frOf l:=by
 obtain⟨t',h1,h2⟩:=FT.args_spec h
 refine⟨t',h1,funext fun j=>?_⟩
 rw[h2 j,FT.full_get]
 simp only[frOf]
 by_cases hj:j<l.length
 ·rw[if_pos (by omega)];simp
 ·rw[if_neg (by omega)]
  have:l[j]? = none:=List.getElem?_eq_none (by omega)
  simp[List.getD_eq_getElem?_getD,this]
noncomputable def forceN(n:Nat):(Nat->Bool)->Bool:=@Nat.rec (fun _=>(Nat->Bool)->Bool) (fun c=>c 0) (fun m _ c=>c (Nat.succ m)) n
noncomputable def forceI(n:Int):(Int->Bool)->Bool:=@Int.rec (fun _=>(Int->Bool)->Bool) (fun m c=>forceN m fun m=>c (.ofNat m)) (fun m c=>forceN m fun m=>c (.negSucc m)) n
noncomputable def forceB(b:Bool):(Bool->Bool)->Bool:=@Bool.rec (fun _=>(Bool->Bool)->Bool) (fun c=>c false) (fun c=>c true) b
theorem forceN_eq(n:Nat)(c:Nat->Bool):forceN n c=c n:=by cases n<;>rfl
theorem forceI_eq(n:Int)(c:Int->Bool):forceI n c=c n:=by cases n<;>exact forceN_eq _ _
theorem forceB_eq(b:Bool)(c:Bool->Bool):forceB b c=c b:=by cases b<;>rfl
abbrev VK:=LV->Bool
abbrev HK:=LV->LHeap->Bool
noncomputable def ev(E:Env)(x:BO):FT->LV:=@BO.rec (fun _=>FT->LV) (fun n t=>t.get n) (fun v _=>v) (fun g _=>E.glob g) x
theorem ev_eq(E:Env)(x:BO)(t:FT):ev E x t=E.ev t.get x:=by cases x<;>rfl
def asBool(v:LV)(k:Bool->Bool):Bool:=match v with|.sc (.bool b)=>k b|_=>false
theorem asBool_spec{v:LV}{k:Bool->Bool}(h:asBool v k=true):∃b,v=.sc (.bool b)/\k b=true:=by
 unfold asBool at h;split at h
 ·exact⟨_,rfl,h⟩
 ·cases h
def isOk{α:Type}(o:Option α)(k:α->Bool):Bool:=match o with|some x=>k x|none=>false
theorem isOk_spec{α:Type}{o:Option α}{k:α->Bool}(h:isOk o k=true):∃x,o=some x/\k x=true:=by
 unfold isOk at h;split at h
 ·exact⟨_,rfl,h⟩
 ·cases h
def whenB(b:Bool)(k:Bool):Bool:=match b with|true=>k|false=>false
theorem whenB_spec{b k:Bool}(h:whenB b k=true):b=true/\k=true:=by cases b<;>simp_all [whenB]
noncomputable def kInt(kk:IntKind)(n:Int)(k:VK):Bool:=forceI n fun n=>k (.sc (.int kk n))
noncomputable def kBool(b:Bool)(k:VK):Bool:=forceB b fun b=>k (.sc (.bool b))
theorem kInt_eq(kk:IntKind)(n:Int)(k:VK):kInt kk n k=k (.sc (.int kk n)):=forceI_eq _ _
theorem kBool_eq(b:Bool)(k:VK):kBool b k=k (.sc (.bool b)):=forceB_eq _ _
def smallN(n:Nat):Bool:=Nat.ble n 1000000000000
noncomputable def wrapF(kk:IntKind)(n:Int):Int:=
 match kk,n with
 |.i64,.ofNat m=>@Bool.rec (fun _=>Int) (IntKind.wrap .i64 (.ofNat m)) (.ofNat m) (smallN m)
 |kk,n=>IntKind.wrap kk n
theorem wrapF_eq(kk:IntKind)(n:Int):wrapF kk n=kk.wrap n:=by
 unfold wrapF
 split
 ·rename_i m
  cases h:smallN m with
  |false=>rfl
  |true=>
   have hm:m<=1000000000000:=Nat.le_of_ble_eq_true h
   show Int.ofNat m=_
   have h64:(IntKind.i64.bits:Nat)=64:=rfl
   have hs:IntKind.i64.signed=true:=rfl
   simp only[IntKind.wrap,h64,hs,Bool.true_and]
   have e1:(Int.ofNat m) % (2^64:Int)=m:=by
    rw[show Int.ofNat m=(m:Int) from rfl];omega
   rw[e1]
   split
   ·rename_i hge;simp at hge;omega
   ·rfl
 ·rfl
def ltF(a b:Int):Bool:=match a,b with
 |.ofNat a,.ofNat b=>Nat.ble (Nat.succ a) b
 |a,b=>decide (a<b)
theorem ltF_eq(a b:Int):ltF a b=decide (a<b):=by
 unfold ltF;split
 ·rename_i a b
  rw[Bool.eq_iff_iff,decide_eq_true_iff,Nat.ble_eq]
  show Nat.succ a<=b↔((a:Int)<(b:Int))
  omega
 ·rfl
def leF(a b:Int):Bool:=match a,b with
 |.ofNat a,.ofNat b=>Nat.ble a b
 |a,b=>decide (a<=b)
theorem leF_eq(a b:Int):leF a b=decide (a<=b):=by
 unfold leF;split
 ·rename_i a b
  rw[Bool.eq_iff_iff,decide_eq_true_iff,Nat.ble_eq]
  show a<=b↔((a:Int)<=(b:Int))
  omega
 ·rfl
def eqI(a b:Int):Bool:=match a,b with
 |.ofNat a,.ofNat b=>Nat.beq a b
 |.negSucc a,.negSucc b=>Nat.beq a b
 |_,_=>false
theorem eqI_eq(a b:Int):eqI a b=(a==b):=by
 unfold eqI;split
 ·rename_i a b
  rw[Bool.eq_iff_iff,beq_iff_eq]
  exact⟨fun h=>by rw[Nat.eq_of_beq_eq_true h],fun h=>by cases h;exact Nat.beq_refl _⟩
 ·rename_i a b
  rw[Bool.eq_iff_iff,beq_iff_eq]
  exact⟨fun h=>by rw[Nat.eq_of_beq_eq_true h],fun h=>by cases h;exact Nat.beq_refl _⟩
 ·rename_i h1 h2
  symm
  rw[beq_eq_false_iff_ne]
  intro h
  subst h
  cases a
  ·exact h1 _ _ rfl rfl
  ·exact h2 _ _ rfl rfl
def bEq:List UInt8->List UInt8->Bool
 |[],[]=>true
 |a::as,b::bs=>match Nat.beq a.toNat b.toNat with
  |true=>bEq as bs
  |false=>false
 |_,_=>false
theorem bEq_eq:∀(a b:List UInt8),bEq a b=(a==b)
 |[],[]=>rfl
 |a::as,b::bs=>by
  unfold bEq
  cases h:Nat.beq a.toNat b.toNat with
  |true=>
   have:a=b:=UInt8.toNat_inj.1 (Nat.eq_of_beq_eq_true h)
   subst this
   simp[bEq_eq as bs]
  |false=>
   have:a≠b:=fun e=>by subst e;simp at h
   simp[this]
 |[],_::_=>rfl
 |_::_,[]=>rfl
theorem bytes_beq(a b:ByteArray):(a.toList==b.toList)=bEq a.data.toList b.data.toList:=by
 rw[bEq_eq,ByteArray.toList_eq,ByteArray.toList_eq]
def kEq(a b:IntKind):Bool:=match a,b with
 |.i64,.i64=>true
 |a,b=>decide (a=b)
theorem kEq_spec{a b:IntKind}(h:kEq a b=true):a=b:=by
 unfold kEq at h;split at h
 ·rfl
 ·simpa using h
def VOk(E:Env)(op:BOp)(f:FT->LHeap->VK->Bool):Prop:=∀(t:FT)(H:LHeap)(k:VK),f t H k=true->∃v,valB E t.get H op=some v/\k v=true
noncomputable def bnInt(op:BinOp)(kk:IntKind)(a b:Int)(k:VK):Bool:=
 match op with
 |.add=>kInt kk (wrapF kk (Int.add a b)) k
 |.sub=>kInt kk (wrapF kk (Int.sub a b)) k
 |.lss=>kBool (ltF a b) k
 |.leq=>kBool (leF a b) k
 |.gtr=>kBool (ltF b a) k
 |.geq=>kBool (leF b a) k
 |op=>isOk (binL op (.sc (.int kk a)) (.sc (.int kk b))) k
theorem bnInt_spec{op:BinOp}{kk:IntKind}{a b:Int}{k:VK}(h:bnInt op kk a b k=true):∃v,binL op (.sc (.int kk a)) (.sc (.int kk b))=some v/\k v=true:=by
 unfold bnInt at h
 split at h
 ·rw[kInt_eq,wrapF_eq]at h;exact⟨_,by simp only[binL,if_true];rfl,h⟩
 ·rw[kInt_eq,wrapF_eq]at h;exact⟨_,by simp only[binL,if_true];rfl,h⟩
 ·rw[kBool_eq,ltF_eq]at h;exact⟨_,by simp[binL],h⟩
 ·rw[kBool_eq,leF_eq]at h;exact⟨_,by simp[binL],h⟩
 ·rw[kBool_eq,ltF_eq]at h;exact⟨_,by simp[binL],h⟩
 ·rw[kBool_eq,leF_eq]at h;exact⟨_,by simp[binL],h⟩
 ·exact isOk_spec h
noncomputable def bnV(op:BinOp)(u v:LV)(k:VK):Bool:=match u,v with
 |.sc (.int kk a),.sc (.int kk' b)=>whenB (kEq kk kk') (bnInt op kk a b k)
 |u,v=>isOk (binL op u v) k
theorem bnV_spec{op:BinOp}{u v:LV}{k:VK}(h:bnV op u v k=true):∃r,binL op u v=some r/\k r=true:=by
 unfold bnV at h
 split at h
 ·obtain⟨h1,h2⟩:=whenB_spec h
  obtain rfl:=kEq_spec h1
  exact bnInt_spec h2
 ·exact isOk_spec h
noncomputable def opBn(E:Env)(op:BinOp)(x y:BO)(t:FT)(_H:LHeap)(k:VK):Bool:=bnV op (ev E x t) (ev E y t) k
theorem opBn_ok(E:Env)(op:BinOp)(x y:BO):VOk E (.bn op x y) (opBn E op x y):=by
 intro t H k h
 obtain⟨r,h1,h2⟩:=bnV_spec h
 rw[ev_eq,ev_eq]at h1
 exact⟨r,h1,h2⟩
noncomputable def eqBF(n:Nat)(u v:LV)(k:Bool->Bool):Bool:=
 match u,v with
 |.sc (.int kk a),.sc (.int kk' b)=>whenB (Nat.beq n 0) (whenB (kEq kk kk') (k (eqI a b)))
 |.sc (.string a),.sc (.string b)=>whenB (Nat.beq n 1) (k (bEq a.data.toList b.data.toList))
 |u,v=>isOk (eqB n u v) k
theorem eqBF_spec{n:Nat}{u v:LV}{k:Bool->Bool}(h:eqBF n u v k=true):∃b,eqB n u v=some b/\k b=true:=by
 unfold eqBF at h
 split at h
 ·obtain⟨h1,h2⟩:=whenB_spec h
  obtain⟨h3,h4⟩:=whenB_spec h2
  obtain rfl:=kEq_spec h3
  obtain rfl:n=0:=Nat.eq_of_beq_eq_true h1
  rw[eqI_eq]at h4
  exact⟨_,by simp[eqB],h4⟩
 ·obtain⟨h1,h2⟩:=whenB_spec h
  obtain rfl:n=1:=Nat.eq_of_beq_eq_true h1
  rw[<-bytes_beq]at h2
  exact⟨_,rfl,h2⟩
 ·exact isOk_spec h
noncomputable def eqLF:List Nat->List LV->List LV->(Bool->Bool)->Bool
 |[],[],[],k=>k true
 |n::ns,a::as,b::bs,k=>eqBF n a b fun x=>eqLF ns as bs fun y=>k (and x y)
 |_,_,_,_=>false
theorem eqLF_spec:∀{ns:List Nat}{as bs:List LV}{k:Bool->Bool},eqLF ns as bs k=true->∃b,eqL ns as bs=some b/\k b=true
 |[],[],[],k,h=>⟨true,rfl,h⟩
 |n::ns,a::as,b::bs,k,h=>by
  obtain⟨x,h1,h2⟩:=eqBF_spec h
  obtain⟨y,h3,h4⟩:=eqLF_spec h2
  exact⟨_,by simp[eqL,h1,h3],h4⟩
 |[],[],_::_,_,h=>by simp[eqLF]at h
 |[],_::_,_,_,h=>by simp[eqLF]at h
 |_::_,[],_,_,h=>by simp[eqLF]at h
 |_::_,_::_,[],_,h=>by simp[eqLF]at h
noncomputable def eqKF(e:EqK)(u v:LV)(k:Bool->Bool):Bool:=
 match e with
 |.pl n=>eqBF n u v k
 |.st ns=>(match u,v with
  |.agg xs,.agg ys=>eqLF ns xs ys k
  |_,_=>false)
 |e=>isOk (eqK e u v) k
theorem eqKF_spec{e:EqK}{u v:LV}{k:Bool->Bool}(h:eqKF e u v k=true):∃b,eqK e u v=some b/\k b=true:=by
 unfold eqKF at h
 split at h
 ·obtain⟨b,h1,h2⟩:=eqBF_spec h
  exact⟨b,by simpa [eqK] using h1,h2⟩
 ·split at h
  ·obtain⟨b,h1,h2⟩:=eqLF_spec h
   exact⟨b,h1,h2⟩
  ·cases h
 ·exact isOk_spec h
noncomputable def opEq(E:Env)(neg:Bool)(e:EqK)(x y:BO)(t:FT)(_H:LHeap)(k:VK):Bool:=eqKF e (ev E x t) (ev E y t) fun b=>kBool (bne b neg) k
theorem opEq_ok(E:Env)(neg:Bool)(e:EqK)(x y:BO):VOk E (.eq neg e x y) (opEq E neg e x y):=by
 intro t H k h
 obtain⟨b,h1,h2⟩:=eqKF_spec h
 rw[ev_eq,ev_eq]at h1
 rw[kBool_eq]at h2
 exact⟨_,by simp[valB,h1],h2⟩
noncomputable def opMv(E:Env)(x:BO)(t:FT)(_H:LHeap)(k:VK):Bool:=k (ev E x t)
theorem opMv_ok(E:Env)(x:BO):VOk E (.mv x) (opMv E x):=by
 intro t H k h
 unfold opMv at h
 rw[ev_eq]at h
 exact⟨_,rfl,h⟩
noncomputable def opPk(E:Env)(c a b:BO)(t:FT)(_H:LHeap)(k:VK):Bool:=asBool (ev E c t) fun c=>@Bool.rec (fun _=>Bool) (k (ev E b t)) (k (ev E a t)) c
theorem opPk_ok(E:Env)(c a b:BO):VOk E (.pk c a b) (opPk E c a b):=by
 intro t H k h
 obtain⟨u,h1,h2⟩:=asBool_spec h
 rw[ev_eq]at h1
 cases u
 ·exact⟨E.ev t.get b,by simp only[valB,h1];rfl,by rw[<-ev_eq];exact h2⟩
 ·exact⟨E.ev t.get a,by simp only[valB,h1];rfl,by rw[<-ev_eq];exact h2⟩
noncomputable def opNt(E:Env)(x:BO)(t:FT)(_H:LHeap)(k:VK):Bool:=asBool (ev E x t) fun b=>kBool (not b) k
theorem opNt_ok(E:Env)(x:BO):VOk E (.nt x) (opNt E x):=by
 intro t H k h
 obtain⟨u,h1,h2⟩:=asBool_spec h
 rw[ev_eq]at h1
 rw[kBool_eq]at h2
 exact⟨_,by simp only[valB,h1],h2⟩
noncomputable def opLd(E:Env)(n:Option Nat)(x:BO)(t:FT)(H:LHeap)(k:VK):Bool:=isOk (loadL H n (ev E x t)) k
theorem opLd_ok(E:Env)(n:Option Nat)(x:BO):VOk E (.ld n x) (opLd E n x):=by
 intro t H k h
 obtain⟨v,h1,h2⟩:=isOk_spec h
 rw[ev_eq]at h1
 exact⟨v,h1,h2⟩
noncomputable def faV(off:Nat)(v:LV)(k:VK):Bool:=match v with
 |.ptr o j=>forceN (j+off) fun j=>k (.ptr o j)
 |.cptr cs j=>forceN (j+off) fun j=>k (.cptr cs j)
 |_=>false
noncomputable def opFa(E:Env)(off:Nat)(x:BO)(t:FT)(_H:LHeap)(k:VK):Bool:=faV off (ev E x t) k
theorem opFa_ok(E:Env)(off:Nat)(x:BO):VOk E (.fa off x) (opFa E off x):=by
 intro t H k h
 unfold opFa faV at h
 rw[ev_eq]at h
 split at h
 ·rename_i o j he
  rw[forceN_eq]at h
  exact⟨_,by simp only[valB,he],h⟩
 ·rename_i o j he
  rw[forceN_eq]at h
  exact⟨_,by simp only[valB,he],h⟩
 ·cases h
noncomputable def fdV(off:Nat)(n:Option Nat)(v:LV)(k:VK):Bool:=match v with
 |.agg cs=>isOk (partL cs off n) k
 |_=>false
noncomputable def opFd(E:Env)(off:Nat)(n:Option Nat)(x:BO)(t:FT)(_H:LHeap)(k:VK):Bool:=fdV off n (ev E x t) k
theorem opFd_ok(E:Env)(off:Nat)(n:Option Nat)(x:BO):VOk E (.fd off n x) (opFd E off n x):=by
 intro t H k h
 unfold opFd fdV at h
 rw[ev_eq]at h
 split at h
 ·rename_i cs he
  obtain⟨v,h1,h2⟩:=isOk_spec h
  exact⟨v,by simp only[valB,he];exact h1,h2⟩
 ·cases h
def iaV(H:LHeap)(sz:Nat)(u:LV)(n:Option Nat):Option LV:=match u,n with
  |.sl es _,some n=>match es[n]? with
   |some e=>if e.cells.length=sz then some (.cptr e.cells 0) else none
   |none=>none
  |.asl o off len,some n=>match look o H.objs with
   |some (.arr s _)=>if n<len/\s=sz then some (.ptr o ((off+n)*sz)) else none
   |_=>none
  |_,_=>none
noncomputable def opIa(E:Env)(sz:Nat)(x i:BO)(t:FT)(H:LHeap)(k:VK):Bool:=isOk (iaV H sz (ev E x t) (natOf (ev E i t))) k
theorem opIa_ok(E:Env)(sz:Nat)(x i:BO):VOk E (.ia sz x i) (opIa E sz x i):=by
 intro t H k h
 obtain⟨v,h1,h2⟩:=isOk_spec h
 rw[ev_eq,ev_eq]at h1
 exact⟨v,h1,h2⟩
def ixV(m:Option Nat)(u:LV)(n:Option Nat):Option LV:=match u,n,m with
  |.sc (.string s),some n,none=>(s.data[n]?).map fun b=>.sc (.int .u8 b.toNat)
  |.agg cs,some n,some m=>if n<m then cs[n]? else none
  |_,_,_=>none
noncomputable def forceV(v:LV)(k:VK):Bool:=match v with
 |.sc (.int kk n)=>forceI n fun n=>k (.sc (.int kk n))
 |v=>k v
theorem forceV_eq(v:LV)(k:VK):forceV v k=k v:=by
 unfold forceV;split
 ·exact forceI_eq _ _
 ·rfl
noncomputable def opIx(E:Env)(m:Option Nat)(x i:BO)(t:FT)(_H:LHeap)(k:VK):Bool:=isOk (ixV m (ev E x t) (natOf (ev E i t))) fun v=>forceV v k
theorem opIx_ok(E:Env)(m:Option Nat)(x i:BO):VOk E (.ix m x i) (opIx E m x i):=by
 intro t H k h
 obtain⟨v,h1,h2⟩:=isOk_spec h
 rw[ev_eq,ev_eq]at h1
 rw[forceV_eq]at h2
 exact⟨v,h1,h2⟩
noncomputable def opLn(E:Env)(j:Nat)(x:BO)(t:FT)(H:LHeap)(k:VK):Bool:=isOk (lenL H j (ev E x t)) fun n=>forceN n fun n=>k (.sc (.int .i64 (Int.ofNat n)))
theorem opLn_ok(E:Env)(j:Nat)(x:BO):VOk E (.ln j x) (opLn E j x):=by
 intro t H k h
 obtain⟨n,h1,h2⟩:=isOk_spec h
 rw[ev_eq]at h1
 rw[forceN_eq]at h2
 exact⟨_,by simp[valB,h1],h2⟩
noncomputable def optN(E:Env)(t:FT)(d:Nat)(x:Option BO):Option Nat:=match x with
 |none=>some d
 |some x=>natOf (ev E x t)
theorem optN_eq(E:Env)(t:FT)(d:Nat)(x:Option BO):optN E t d x=optNat t.get E.ev d x:=by
 cases x with
 |none=>rfl
 |some x=>simp only[optN,optNat,ev_eq]
noncomputable def opSr(E:Env)(j sz:Nat)(x:BO)(l h:Option BO)(t:FT)(H:LHeap)(k:VK):Bool:=
 isOk (lenL H j (ev E x t)) fun n=>isOk (optN E t 0 l) fun a=>isOk (optN E t n h) fun b=>isOk (sliceL j sz (ev E x t) a b) k
theorem opSr_ok(E:Env)(j sz:Nat)(x:BO)(l h:Option BO):VOk E (.sr j sz x l h) (opSr E j sz x l h):=by
 intro t H k hh
 obtain⟨n,h1,hh⟩:=isOk_spec hh
 obtain⟨a,h2,hh⟩:=isOk_spec hh
 obtain⟨b,h3,hh⟩:=isOk_spec hh
 obtain⟨v,h4,hh⟩:=isOk_spec hh
 rw[ev_eq]at h1 h4
 rw[optN_eq]at h2 h3
 exact⟨v,by simp only[valB,h1,h2,h3,h4],hh⟩
noncomputable def opMi(E:Env)(ty:TypeId)(x:BO)(t:FT)(_H:LHeap)(k:VK):Bool:=k (.iface ty (ev E x t))
theorem opMi_ok(E:Env)(ty:TypeId)(x:BO):VOk E (.mi ty x) (opMi E ty x):=by
 intro t H k h
 unfold opMi at h
 rw[ev_eq]at h
 exact⟨_,rfl,h⟩
noncomputable def evsF(E:Env)(l:List BO)(t:FT):List LV:=@List.rec BO (fun _=>List LV) [] (fun x _ ih=>ev E x t::ih) l
theorem evsF_eq(E:Env)(l:List BO)(t:FT):evsF E l t=l.map (E.ev t.get):=by
 induction l with
 |nil=>rfl
 |cons x l ih=>show ev E x t::evsF E l t=_;rw[ih,ev_eq];rfl
noncomputable def opMf(E:Env)(f:Fn)(a b:List BO)(t:FT)(_H:LHeap)(k:VK):Bool:=k (.fn f (evsF E a t) (evsF E b t))
theorem opMf_ok(E:Env)(f:Fn)(a b:List BO):VOk E (.mf f a b) (opMf E f a b):=by
 intro t H k h
 unfold opMf at h
 rw[evsF_eq,evsF_eq]at h
 exact⟨_,rfl,h⟩
noncomputable def xtV(i:Nat)(v:LV):Option LV:=match v with
 |.tup vs=>vs[i]?
 |_=>none
noncomputable def opXt(E:Env)(i:Nat)(x:BO)(t:FT)(_H:LHeap)(k:VK):Bool:=isOk (xtV i (ev E x t)) k
theorem opXt_ok(E:Env)(i:Nat)(x:BO):VOk E (.xt i x) (opXt E i x):=by
 intro t H k h
 obtain⟨v,h1,h2⟩:=isOk_spec h
 rw[ev_eq]at h1
 exact⟨v,h1,h2⟩
noncomputable def ncV(v:LV)(k:VK):Bool:=match v with
 |.ptr o j=>k (.ptr o j)
 |.cptr cs j=>k (.cptr cs j)
 |_=>false
noncomputable def opNc(E:Env)(x:BO)(t:FT)(_H:LHeap)(k:VK):Bool:=ncV (ev E x t) k
theorem opNc_ok(E:Env)(x:BO):VOk E (.nc x) (opNc E x):=by
 intro t H k h
 unfold opNc ncV at h
 rw[ev_eq]at h
 split at h
 ·rename_i o j he
  exact⟨_,by simp only[valB,he],h⟩
 ·rename_i o j he
  exact⟨_,by simp only[valB,he],h⟩
 ·cases h
noncomputable def opV(E:Env)(op:BOp)(t:FT)(H:LHeap)(k:VK):Bool:=isOk (valB E t.get H op) fun v=>forceV v k
theorem opV_ok(E:Env)(op:BOp):VOk E op (opV E op):=by
 intro t H k h
 obtain⟨v,h1,h2⟩:=isOk_spec h
 rw[forceV_eq]at h2
 exact⟨v,h1,h2⟩
def EOk(E:Env)(op:BOp)(f:FT->LHeap->HK->Bool):Prop:=∀(t:FT)(H:LHeap)(k:HK),f t H k=true->∃v H',effR E t.get H op v H'/\k v H'=true
noncomputable def opAl(_E:Env)(z:List LV)(_t:FT)(H:LHeap)(k:HK):Bool:=forceN H.next fun n=>k (.ptr n 0) ⟨(n,.cells z)::H.objs,Nat.succ n⟩
theorem opAl_ok(E:Env)(z:List LV):EOk E (.al z) (opAl E z):=by
 intro t H k h
 unfold opAl at h
 rw[forceN_eq]at h
 exact⟨_,_,.inl rfl,h⟩
noncomputable def opBx(E:Env)(x:BO)(t:FT)(H:LHeap)(k:HK):Bool:=whenB (ev E x t).whole (forceN H.next fun n=>k (.ptr n 0) ⟨(n,.cells (ev E x t).cells)::H.objs,Nat.succ n⟩)
theorem opBx_ok(E:Env)(x:BO):EOk E (.bx x) (opBx E x):=by
 intro t H k h
 obtain⟨h1,h2⟩:=whenB_spec h
 rw[forceN_eq]at h2
 rw[ev_eq]at h1 h2
 exact⟨_,_,.inl (by simp only[effB,h1,if_true];rfl),h2⟩
def stCells(n off:Nat)(x:LV)(cs:List LV):Option (List LV):=
 match Nat.beq x.cells.length n,x.whole,Nat.ble (off+n) cs.length with
 |true,true,true=>some (cs.take off++x.cells++cs.drop (off+n))
 |_,_,_=>none
def stV(n:Nat)(H:LHeap)(a x:LV):Option LHeap:=match a with
 |.ptr o off=>match look o H.objs with
  |some (.cells cs)=>(match stCells n off x cs with|some cs'=>some (H.put o (.cells cs'))|none=>none)
  |some (.arr sz cs)=>(match stCells n off x cs with|some cs'=>some (H.put o (.arr sz cs'))|none=>none)
  |_=>none
 |_=>none
theorem stCells_spec{n off:Nat}{x:LV}{cs cs':List LV}(h:stCells n off x cs=some cs'):(x.cells.length=n/\x.whole=true/\off+n<=cs.length)/\cs'=cs.take off++x.cells++cs.drop (off+n):=by
 unfold stCells at h
 split at h
 ·rename_i h1 h2 h3
  simp at h
  exact⟨⟨Nat.eq_of_beq_eq_true h1,h2,Nat.le_of_ble_eq_true h3⟩,by rw[<-h,List.append_assoc]⟩
 ·cases h
noncomputable def opSt(E:Env)(n:Nat)(a x:BO)(t:FT)(H:LHeap)(k:HK):Bool:=isOk (stV n H (ev E a t) (ev E x t)) fun H'=>k .bot H'
theorem opSt_ok(E:Env)(n:Nat)(a x:BO):EOk E (.st n a x) (opSt E n a x):=by
 intro t H k h
 obtain⟨H',h1,h2⟩:=isOk_spec h
 rw[ev_eq,ev_eq]at h1
 refine⟨_,_,.inl ?_,h2⟩
 unfold stV at h1
 split at h1
 ·rename_i o off ha
  split at h1
  ·rename_i cs hl
   split at h1
   ·rename_i cs' hc
    simp at h1;subst h1
    obtain⟨q1,rfl⟩:=stCells_spec hc
    simp only[effB,ha,hl,if_pos q1]
   ·cases h1
  ·rename_i sz cs hl
   split at h1
   ·rename_i cs' hc
    simp at h1;subst h1
    obtain⟨q1,rfl⟩:=stCells_spec hc
    simp only[effB,ha,hl,if_pos q1]
   ·cases h1
  ·cases h1
 ·cases h1
noncomputable def opE(E:Env)(op:BOp)(t:FT)(H:LHeap)(k:HK):Bool:=isOk (effB E t.get H op) fun r=>k r.1 r.2
theorem opE_ok(E:Env)(op:BOp):EOk E op (opE E op):=by
 intro t H k h
 obtain⟨r,h1,h2⟩:=isOk_spec h
 exact⟨r.1,r.2,.inl h1,h2⟩
noncomputable def opAp(E:Env)(m:Bool)(sz:Nat)(s x:BO)(t:FT)(H:LHeap)(k:HK):Bool:=
 @Bool.rec (fun _=>Bool) (isOk (effB E t.get H (.ap sz s x)) fun r=>k r.1 r.2) (isOk (effB2 E t.get H (.ap sz s x)) fun r=>k r.1 r.2) m
theorem opAp_ok(E:Env)(m:Bool)(sz:Nat)(s x:BO):EOk E (.ap sz s x) (opAp E m sz s x):=by
 intro t H k h
 cases m with
 |false=>
  obtain⟨r,h1,h2⟩:=isOk_spec (show isOk (effB E t.get H (.ap sz s x)) (fun r=>k r.1 r.2)=true from h)
  exact⟨r.1,r.2,.inl h1,h2⟩
 |true=>
  obtain⟨r,h1,h2⟩:=isOk_spec (show isOk (effB2 E t.get H (.ap sz s x)) (fun r=>k r.1 r.2)=true from h)
  exact⟨r.1,r.2,.inr h1,h2⟩
end Go.Abs
namespace Go.Abs
open Go
def Desc:List (Nat×LObj)->Nat->Prop
 |[],_=>True
 |(j,_)::r,n=>j<n/\Desc r j
theorem Desc.mono:∀{l:List (Nat×LObj)}{n m:Nat},Desc l n->n<=m->Desc l m
 |[],_,_,_,_=>trivial
 |(_,_)::_,_,_,h,hm=>⟨Nat.lt_of_lt_of_le h.1 hm,h.2⟩
theorem Desc.look:∀{l:List (Nat×LObj)}{n i:Nat}{o:LObj},Desc l n->look i l=some o->i<n
 |[],_,_,_,_,h=>by simp[Abs.look]at h
 |(j,x)::r,n,i,o,hd,h=>by
  simp only[Abs.look]at h
  split at h
  ·rename_i he;rw[he];exact hd.1
  ·exact Nat.lt_trans (Desc.look hd.2 h) hd.1
theorem Desc.put:∀{l:List (Nat×LObj)}{n i:Nat}{o:LObj},Desc l n->Desc (putO i o l) n
 |[],_,_,_,_=>trivial
 |(j,x)::r,n,i,o,h=>by
  simp only[putO]
  split
  ·exact h
  ·exact⟨h.1,Desc.put h.2⟩
theorem Desc.del:∀{l:List (Nat×LObj)}{n i:Nat},Desc l n->Desc (delO i l) n
 |[],_,_,_=>trivial
 |(j,x)::r,n,i,h=>by
  simp only[delO]
  split
  ·exact(Desc.del h.2).mono (Nat.le_of_lt h.1)
  ·exact⟨h.1,Desc.del h.2⟩
theorem Desc.dels:∀{l:List (Nat×LObj)}{n:Nat}{L:List Nat},Desc l n->Desc (delsO L l) n
 |[],_,_,_=>trivial
 |(j,x)::r,n,L,h=>by
  simp only[delsO]
  split
  ·exact(Desc.dels h.2).mono (Nat.le_of_lt h.1)
  ·exact⟨h.1,Desc.dels h.2⟩
abbrev LHeap.Ok(H:LHeap):Prop:=Desc H.objs H.next
theorem alloc_ok{H:LHeap}(h:H.Ok)(o:LObj):(H.alloc o).Ok:=⟨Nat.lt_succ_self _,h⟩
def gcO(n0:Nat):List (Nat×LObj)->List (Nat×LObj)
 |[]=>[]
 |(j,x)::r=>match Nat.ble n0 j with
  |true=>gcO n0 r
  |false=>(j,x)::r
def gcH(n0:Nat)(H:LHeap):LHeap:=⟨gcO n0 H.objs,H.next⟩
theorem gcO_ok:∀{l:List (Nat×LObj)}{n n0:Nat},Desc l n->Desc (gcO n0 l) n/\∀i o,look i (gcO n0 l)=some o->look i l=some o
 |[],_,_,_=>⟨trivial,fun _ _ h=>h⟩
 |(j,x)::r,n,n0,h=>by
  unfold gcO
  cases hb:Nat.ble n0 j with
  |false=>exact⟨h,fun _ _ h=>h⟩
  |true=>
   obtain⟨h1,h2⟩:=gcO_ok (n0:=n0) h.2
   refine⟨h1.mono (Nat.le_of_lt h.1),fun i o hl=>?_⟩
   have h3:=h2 i o hl
   have:=h.2.look h3
   simp only[look]
   rw[if_neg (by omega)]
   exact h3
theorem gcH_ok{H:LHeap}(h:H.Ok)(n0:Nat):(gcH n0 H).Ok/\HWk H (gcH n0 H):=by
 obtain⟨h1,h2⟩:=gcO_ok (n0:=n0) h
 exact⟨h1,Nat.le_refl _,h2⟩
theorem effB_ok{E:Env}{fr:Fr}{H H':LHeap}{op:BOp}{v:LV}(hH:H.Ok)(h:effB E fr H op=some (v,H')):H'.Ok:=by
 cases op<;>simp only[effB]at h<;>try (cases h;done)
 all_goals (repeat' (split at h))<;>try (cases h;done)
 all_goals first
  |(simp only[Option.some.injEq,Prod.mk.injEq]at h;obtain⟨_,rfl⟩:=h;first|exact alloc_ok hH _|exact Desc.put hH|exact hH)
  |skip
 ·obtain⟨es',_,he⟩:=Option.map_eq_some_iff.1 h
  simp only[Prod.mk.injEq]at he
  obtain⟨_,rfl⟩:=he
  exact Desc.put hH
 ·obtain⟨n,_,h⟩:=Option.bind_eq_some_iff.1 h
  split at h
  ·simp only[Option.some.injEq,Prod.mk.injEq]at h
   obtain⟨_,rfl⟩:=h
   exact alloc_ok hH _
  ·cases h
theorem effR_ok{E:Env}{fr:Fr}{H H':LHeap}{op:BOp}{v:LV}(hH:H.Ok)(h:effR E fr H op v H'):H'.Ok:=by
 rcases h with h|h
 ·exact effB_ok hH h
 ·cases op<;>simp only[effB2]at h<;>try (cases h;done)
  split at h
  ·rename_i cs H0 n xs ow hs hx
   split at h
   ·simp only[Option.some.injEq,Prod.mk.injEq]at h
    obtain⟨_,rfl⟩:=h
    exact hH
   split at h
   ·simp only[Option.some.injEq,Prod.mk.injEq]at h
    obtain⟨_,rfl⟩:=h
    refine alloc_ok ?_ _
    unfold srcL at hs
    split at hs
    ·split at hs
     ·simp only[Option.some.injEq,Prod.mk.injEq]at hs
      rw[<-hs.2.1];exact hH
     ·cases hs
    ·split at hs
     ·split at hs
      ·simp only[Option.some.injEq,Prod.mk.injEq]at hs
       rw[<-hs.2.1];exact Desc.del hH
      ·cases hs
     ·cases hs
    ·cases hs
   ·cases h
  ·cases h
def eqOwn:Own->Own->Bool
 |.no,.no=>true
 |.full,.full=>true
 |.tok a,.tok b=>Nat.beq a b
 |_,_=>false
theorem eqOwn_spec{a b:Own}(h:eqOwn a b=true):a=b:=by
 cases a<;>cases b<;>simp[eqOwn]at h<;>first|rfl|(rw[h])
def eqSc:Value->Value->Bool
 |.int k a,.int k' b=>kEq k k'&&eqI a b
 |.string a,.string b=>bEq a.data.toList b.data.toList
 |.bool a,.bool b=>a==b
 |.nilIface,.nilIface=>true
 |.nilFunc,.nilFunc=>true
 |.map none,.map none=>true
 |.pointer none,.pointer none=>true
 |_,_=>false
theorem eqSc_spec{a b:Value}(h:eqSc a b=true):a=b:=by
 unfold eqSc at h
 split at h
 ·simp only[Bool.and_eq_true]at h
  obtain⟨h1,h2⟩:=h
  rw[kEq_spec h1]
  rw[eqI_eq]at h2
  rw[eq_of_beq h2]
 ·rw[bEq_eq]at h
  have h1:=eq_of_beq h
  rename_i a b
  obtain⟨⟨x⟩⟩:=a
  obtain⟨⟨y⟩⟩:=b
  simp at h1
  rw[h1]
 ·rw[eq_of_beq h]
 all_goals first|rfl|cases h
def eqFn:Fn->Fn->Bool
 |.func a,.func b=>Nat.beq a b
 |_,_=>false
theorem eqFn_spec{a b:Fn}(h:eqFn a b=true):a=b:=by
 unfold eqFn at h;split at h
 ·rw[Nat.eq_of_beq_eq_true h]
 ·cases h
mutual
def eqLV:LV->LV->Bool
 |.sc a,.sc b=>eqSc a b
 |.agg a,.agg b=>eqLVs a b
 |.tup a,.tup b=>eqLVs a b
 |.sl a o,.sl b o'=>eqOwn o o'&&eqLVs a b
 |.asl a b c,.asl a' b' c'=>Nat.beq a a'&&(Nat.beq b b'&&Nat.beq c c')
 |.ptr a b,.ptr a' b'=>Nat.beq a a'&&Nat.beq b b'
 |.cptr a b,.cptr a' b'=>Nat.beq b b'&&eqLVs a a'
 |.map a,.map a'=>Nat.beq a a'
 |.fn f a b,.fn f' a' b'=>eqFn f f'&&(eqLVs a a'&&eqLVs b b')
 |.iface t v,.iface t' v'=>Nat.beq t t'&&eqLV v v'
 |.bot,.bot=>true
 |_,_=>false
def eqLVs:List LV->List LV->Bool
 |[],[]=>true
 |a::as,b::bs=>eqLV a b&&eqLVs as bs
 |_,_=>false
end
mutual
theorem eqLV_spec:∀{a b:LV},eqLV a b=true->a=b
 |.sc a,.sc b,h=>by rw[eqLV]at h;rw[eqSc_spec h]
 |.agg a,.agg b,h=>by rw[eqLV]at h;rw[eqLVs_spec h]
 |.tup a,.tup b,h=>by rw[eqLV]at h;rw[eqLVs_spec h]
 |.sl a o,.sl b o',h=>by rw[eqLV,Bool.and_eq_true]at h;rw[eqOwn_spec h.1,eqLVs_spec h.2]
 |.asl a b c,.asl a' b' c',h=>by
  rw[eqLV,Bool.and_eq_true,Bool.and_eq_true]at h
  rw[Nat.eq_of_beq_eq_true h.1,Nat.eq_of_beq_eq_true h.2.1,Nat.eq_of_beq_eq_true h.2.2]
 |.ptr a b,.ptr a' b',h=>by rw[eqLV,Bool.and_eq_true]at h;rw[Nat.eq_of_beq_eq_true h.1,Nat.eq_of_beq_eq_true h.2]
 |.cptr a b,.cptr a' b',h=>by rw[eqLV,Bool.and_eq_true]at h;rw[Nat.eq_of_beq_eq_true h.1,eqLVs_spec h.2]
 |.map a,.map b,h=>by rw[eqLV]at h;rw[Nat.eq_of_beq_eq_true h]
 |.fn f a b,.fn f' a' b',h=>by
  rw[eqLV,Bool.and_eq_true,Bool.and_eq_true]at h
  rw[eqFn_spec h.1,eqLVs_spec h.2.1,eqLVs_spec h.2.2]
 |.iface t v,.iface t' v',h=>by
  rw[eqLV,Bool.and_eq_true]at h
  rw[Nat.eq_of_beq_eq_true h.1,eqLV_spec h.2]
 |.bot,.bot,_=>rfl
 |.sc _,.agg _,h|.sc _,.tup _,h|.sc _,.sl _ _,h|.sc _,.asl _ _ _,h|.sc _,.ptr _ _,h|.sc _,.cptr _ _,h|.sc _,.map _,h|.sc _,.fn _ _ _,h|.sc _,.iface _ _,h|.sc _,.bot,h=>by simp[eqLV]at h
 |.agg _,.sc _,h|.agg _,.tup _,h|.agg _,.sl _ _,h|.agg _,.asl _ _ _,h|.agg _,.ptr _ _,h|.agg _,.cptr _ _,h|.agg _,.map _,h|.agg _,.fn _ _ _,h|.agg _,.iface _ _,h|.agg _,.bot,h=>by simp[eqLV]at h
 |.tup _,.agg _,h|.tup _,.sc _,h|.tup _,.sl _ _,h|.tup _,.asl _ _ _,h|.tup _,.ptr _ _,h|.tup _,.cptr _ _,h|.tup _,.map _,h|.tup _,.fn _ _ _,h|.tup _,.iface _ _,h|.tup _,.bot,h=>by simp[eqLV]at h
 |.sl _ _,.agg _,h|.sl _ _,.tup _,h|.sl _ _,.sc _,h|.sl _ _,.asl _ _ _,h|.sl _ _,.ptr _ _,h|.sl _ _,.cptr _ _,h|.sl _ _,.map _,h|.sl _ _,.fn _ _ _,h|.sl _ _,.iface _ _,h|.sl _ _,.bot,h=>by simp[eqLV]at h
 |.asl _ _ _,.agg _,h|.asl _ _ _,.tup _,h|.asl _ _ _,.sl _ _,h|.asl _ _ _,.sc _,h|.asl _ _ _,.ptr _ _,h|.asl _ _ _,.cptr _ _,h|.asl _ _ _,.map _,h|.asl _ _ _,.fn _ _ _,h|.asl _ _ _,.iface _ _,h|.asl _ _ _,.bot,h=>by simp[eqLV]at h
 |.ptr _ _,.agg _,h|.ptr _ _,.tup _,h|.ptr _ _,.sl _ _,h|.ptr _ _,.asl _ _ _,h|.ptr _ _,.sc _,h|.ptr _ _,.cptr _ _,h|.ptr _ _,.map _,h|.ptr _ _,.fn _ _ _,h|.ptr _ _,.iface _ _,h|.ptr _ _,.bot,h=>by simp[eqLV]at h
 |.cptr _ _,.agg _,h|.cptr _ _,.tup _,h|.cptr _ _,.sl _ _,h|.cptr _ _,.asl _ _ _,h|.cptr _ _,.ptr _ _,h|.cptr _ _,.sc _,h|.cptr _ _,.map _,h|.cptr _ _,.fn _ _ _,h|.cptr _ _,.iface _ _,h|.cptr _ _,.bot,h=>by simp[eqLV]at h
 |.map _,.agg _,h|.map _,.tup _,h|.map _,.sl _ _,h|.map _,.asl _ _ _,h|.map _,.ptr _ _,h|.map _,.cptr _ _,h|.map _,.sc _,h|.map _,.fn _ _ _,h|.map _,.iface _ _,h|.map _,.bot,h=>by simp[eqLV]at h
 |.fn _ _ _,.agg _,h|.fn _ _ _,.tup _,h|.fn _ _ _,.sl _ _,h|.fn _ _ _,.asl _ _ _,h|.fn _ _ _,.ptr _ _,h|.fn _ _ _,.cptr _ _,h|.fn _ _ _,.map _,h|.fn _ _ _,.sc _,h|.fn _ _ _,.iface _ _,h|.fn _ _ _,.bot,h=>by simp[eqLV]at h
 |.iface _ _,.agg _,h|.iface _ _,.tup _,h|.iface _ _,.sl _ _,h|.iface _ _,.asl _ _ _,h|.iface _ _,.ptr _ _,h|.iface _ _,.cptr _ _,h|.iface _ _,.map _,h|.iface _ _,.fn _ _ _,h|.iface _ _,.sc _,h|.iface _ _,.bot,h=>by simp[eqLV]at h
 |.bot,.agg _,h|.bot,.tup _,h|.bot,.sl _ _,h|.bot,.asl _ _ _,h|.bot,.ptr _ _,h|.bot,.cptr _ _,h|.bot,.map _,h|.bot,.fn _ _ _,h|.bot,.iface _ _,h|.bot,.sc _,h=>by simp[eqLV]at h
theorem eqLVs_spec:∀{a b:List LV},eqLVs a b=true->a=b
 |[],[],_=>rfl
 |a::as,b::bs,h=>by
  rw[eqLVs,Bool.and_eq_true]at h
  rw[eqLV_spec h.1,eqLVs_spec h.2]
 |[],_::_,h=>by simp[eqLVs]at h
 |_::_,[],h=>by simp[eqLVs]at h
end
noncomputable def pendOne(E:Env)(t:FT)(H:LHeap)(b:BI):Bool:=match wantedB t.get b.g with
 |some true=>(match b.d,valB E t.get H b.op with
  |some d,some v=>eqLV v (t.get d)
  |_,_=>false)
 |some false=>true
 |none=>false
noncomputable def pendB(E:Env)(t:FT)(H:LHeap)(p:List BI):Bool:=@List.rec BI (fun _=>Bool) true (fun b _ ih=>whenB (pendOne E t H b) ih) p
theorem pendB_spec{E:Env}{t:FT}{H:LHeap}{p:List BI}(h:pendB E t H p=true):PendOk E t.get H p:=by
 induction p with
 |nil=>intro b hb;cases hb
 |cons a p ih=>
  obtain⟨h1,h2⟩:=whenB_spec (show whenB (pendOne E t H a) (pendB E t H p)=true from h)
  intro b hb hw
  rcases List.mem_cons.1 hb with rfl|hb
  ·unfold pendOne at h1
   rw[hw]at h1
   simp only at h1
   split at h1
   ·rename_i d v hd hv
    exact⟨d,hd,by rw[hv,eqLV_spec h1]⟩
   ·cases h1
  ·exact ih h2 b hb hw
abbrev CK:=Fn->List LV->Bool
abbrev OpK:=FT->LHeap->VK->HK->CK->VK->Bool
noncomputable def vop(f:FT->LHeap->VK->Bool):OpK:=fun t H kv _ _ _=>f t H kv
noncomputable def hop(f:FT->LHeap->HK->Bool):OpK:=fun t H _ kh _ _=>f t H kh
noncomputable def opCf(E:Env)(f:FuncId)(args:List BO):OpK:=fun t _ _ _ kc _=>kc (.func f) (evsF E args t)
noncomputable def clV(v:LV)(args:List LV)(kc:CK):Bool:=match v with
 |.fn (.func f) first cap=>kc (.func f) (first++args++cap)
 |.fn (.yield o) [] []=>kc (.yield o) args
 |_=>false
noncomputable def opCl(E:Env)(x:BO)(args:List BO):OpK:=fun t _ _ _ kc _=>clV (ev E x t) (evsF E args t) kc
noncomputable def pnV(v:LV)(kp:VK):Bool:=match v with
 |.iface t u=>kp (.iface t u)
 |_=>false
noncomputable def opPn(E:Env)(x:BO):OpK:=fun t _ _ _ _ kp=>pnV (ev E x t) kp
noncomputable def noOp:OpK:=fun _ _ _ _ _ _=>false
noncomputable def disp(E:Env)(m:Bool)(op:BOp):OpK:=
 @BOp.rec (fun _=>OpK)
  (fun neg k x y=>vop (opEq E neg k x y))
  (fun x=>vop (opMv E x))
  (fun c a b=>vop (opPk E c a b))
  (fun op x y=>vop (opBn E op x y))
  (fun x=>vop (opNt E x))
  (fun n x=>vop (opLd E n x))
  (fun off x=>vop (opFa E off x))
  (fun off n x=>vop (opFd E off n x))
  (fun sz x i=>vop (opIa E sz x i))
  (fun n x i=>vop (opIx E n x i))
  (fun sz n x i=>vop (opV E (.ip sz n x i)))
  (fun k x=>vop (opLn E k x))
  (fun k sz x l h=>vop (opSr E k sz x l h))
  (fun k x=>vop (opV E (.cv k x)))
  (fun x=>vop (opV E (.cs x)))
  (fun t x=>vop (opMi E t x))
  (fun f a b=>vop (opMf E f a b))
  (fun i x=>vop (opXt E i x))
  (fun sz ps=>vop (opV E (.bs sz ps)))
  (fun z ps=>vop (opV E (.bd z ps)))
  (fun x=>vop (opNc E x))
  (fun m x y=>vop (opV E (.mn m x y)))
  (fun k ok z x i=>vop (opV E (.lk k ok z x i)))
  (fun t z x=>vop (opV E (.ta t z x)))
  (fun z=>hop (opAl E z))
  (fun x=>hop (opBx E x))
  (fun n a x=>hop (opSt E n a x))
  (fun sz s x=>hop (opAp E m sz s x))
  (hop (opE E .mk))
  (fun tb te=>hop (opE E (.nb tb te)))
  (fun e m k v=>hop (opE E (.mu e m k v)))
  (fun z n=>hop (opE E (.ms z n)))
  (fun x=>hop (opE E (.rg x)))
  (fun _=>noOp)
  (fun x=>vop (opV E (.en x)))
  (fun f as=>opCf E f as)
  (fun x as=>opCl E x as)
  (fun x=>opPn E x)
  (fun _ _=>noOp)
  noOp noOp op
def DispOk(E:Env)(op:BOp)(f:OpK):Prop:=∀(t:FT)(H:LHeap)(kv:VK)(kh:HK)(kc:CK)(kp:VK),f t H kv kh kc kp=true ->
 (∃v,valB E t.get H op=some v/\kv v=true)\/(∃v H',effR E t.get H op v H'/\kh v H'=true)\/(∃g args,calleeB E t.get op=some (g,args)/\kc (.func g) args=true) \/
 (∃x as o,op=.cl x as/\E.ev t.get x=.fn (.yield o) [] []/\kc (.yield o) (evs E t.get as)=true) \/
 (∃x ty v,op=.pn x/\E.ev t.get x=.iface ty v/\kp (.iface ty v)=true)
theorem vop_ok{E:Env}{op:BOp}{f:FT->LHeap->VK->Bool}(h:VOk E op f):DispOk E op (vop f):=fun t H kv _ _ _ hh=>.inl (h t H kv hh)
theorem hop_ok{E:Env}{op:BOp}{f:FT->LHeap->HK->Bool}(h:EOk E op f):DispOk E op (hop f):=fun t H _ kh _ _ hh=>.inr (.inl (h t H kh hh))
theorem noOp_ok{E:Env}{op:BOp}:DispOk E op noOp:=fun _ _ _ _ _ _ h=>by cases h
theorem disp_ok(E:Env)(m:Bool)(op:BOp):DispOk E op (disp E m op):=by
 cases op with
 |eq neg k x y=>exact vop_ok (opEq_ok E neg k x y)
 |mv x=>exact vop_ok (opMv_ok E x)
 |pk c a b=>exact vop_ok (opPk_ok E c a b)
 |bn op x y=>exact vop_ok (opBn_ok E op x y)
 |nt x=>exact vop_ok (opNt_ok E x)
 |ld n x=>exact vop_ok (opLd_ok E n x)
 |fa off x=>exact vop_ok (opFa_ok E off x)
 |fd off n x=>exact vop_ok (opFd_ok E off n x)
 |ia sz x i=>exact vop_ok (opIa_ok E sz x i)
 |ix n x i=>exact vop_ok (opIx_ok E n x i)
 |ip sz n x i=>exact vop_ok (opV_ok E _)
 |ln k x=>exact vop_ok (opLn_ok E k x)
 |sr k sz x l h=>exact vop_ok (opSr_ok E k sz x l h)
 |cv k x=>exact vop_ok (opV_ok E _)
 |cs x=>exact vop_ok (opV_ok E _)
 |mi t x=>exact vop_ok (opMi_ok E t x)
 |mf f a b=>exact vop_ok (opMf_ok E f a b)
 |xt i x=>exact vop_ok (opXt_ok E i x)
 |bs sz ps=>exact vop_ok (opV_ok E _)
 |bd z ps=>exact vop_ok (opV_ok E _)
 |nc x=>exact vop_ok (opNc_ok E x)
 |mn m x y=>exact vop_ok (opV_ok E _)
 |lk k ok z x i=>exact vop_ok (opV_ok E _)
 |ta t z x=>exact vop_ok (opV_ok E _)
 |al z=>exact hop_ok (opAl_ok E z)
 |bx x=>exact hop_ok (opBx_ok E x)
 |st n a x=>exact hop_ok (opSt_ok E n a x)
 |ap sz s x=>exact hop_ok (opAp_ok E m sz s x)
 |mk=>exact hop_ok (opE_ok E _)
 |nb tb te=>exact hop_ok (opE_ok E _)
 |mu e m k v=>exact hop_ok (opE_ok E _)
 |ms z n=>exact hop_ok (opE_ok E _)
 |rg x=>exact hop_ok (opE_ok E _)
 |nx x=>exact noOp_ok
 |en x=>exact vop_ok (opV_ok E _)
 |cf f as=>
  intro t H kv kh kc kp h
  refine .inr (.inr (.inl ⟨f,_,rfl,?_⟩))
  have:kc (.func f) (evsF E as t)=true:=h
  rw[evsF_eq]at this
  exact this
 |cl x as=>
  intro t H kv kh kc kp h
  have h':clV (ev E x t) (evsF E as t) kc=true:=h
  unfold clV at h'
  rw[ev_eq]at h'
  split at h'
  ·rename_i f first cap he
   rw[evsF_eq]at h'
   exact .inr (.inr (.inl ⟨f,_,by simp only[calleeB,he];rfl,h'⟩))
  ·rename_i o he
   rw[evsF_eq]at h'
   exact .inr (.inr (.inr (.inl ⟨x,as,o,rfl,he,h'⟩)))
  ·cases h'
 |pn x=>
  intro t H kv kh kc kp h
  have h':pnV (ev E x t) kp=true:=h
  unfold pnV at h'
  rw[ev_eq]at h'
  split at h'
  ·rename_i ty u he
   exact .inr (.inr (.inr (.inr ⟨x,ty,u,rfl,he,h'⟩)))
  ·cases h'
 |df x as=>exact noOp_ok
 |rc=>exact noOp_ok
 |bad=>exact noOp_ok
noncomputable def putT(d:Option Nat)(t:FT)(v:LV)(c:FT->Bool):Bool:=@Option.rec Nat (fun _=>Bool) (c t) (fun d=>t.setK d v c) d
theorem putT_spec{d:Option Nat}{t:FT}{v:LV}{c:FT->Bool}(h:putT d t v c=true):∃t',c t'=true/\t'.get=putD t.get d v:=by
 cases d with
 |none=>exact⟨t,h,rfl⟩
 |some d=>exact FT.setK_spec h
abbrev XK:=LExit->FT->LHeap->Bool
abbrev CallF:=FuncId->List LV->LHeap->HK->HK->Bool
abbrev CodeF:=FT->LHeap->XK->Bool
abbrev RoundF:=Nat->List LV->LHeap->(LHeap->Bool)->Bool
noncomputable def callG(call:CallF)(rnd:RoundF)(g:Fn)(args:List LV)(H:LHeap)(kv:HK)(kp:HK):Bool:=match g with
 |.func f=>call f args H kv kp
 |.yield o=>rnd o args H fun H'=>kv (.sc (.bool true)) H'
 |_=>false
noncomputable def wantF(g:Option (Nat×Bool))(t:FT)(yes no:Bool):Bool:=match g with
 |none=>yes
 |some (j,w)=>match t.get j with
  |.sc (.bool b)=>@Bool.rec (fun _=>Bool) no yes (@Bool.rec (fun _=>Bool) (not w) w b)
  |.tup []=>no
  |_=>false
theorem wantF_spec{g:Option (Nat×Bool)}{t:FT}{yes no:Bool}(h:wantF g t yes no=true):(wantedB t.get g=some true/\yes=true)\/(wantedB t.get g=some false/\no=true):=by
 unfold wantF at h
 split at h
 ·exact .inl ⟨rfl,h⟩
 ·rename_i j w
  split at h
  ·rename_i b h1
   simp only[wantedB,h1]
   cases b<;>cases w<;>first|exact .inl ⟨rfl,h⟩|exact .inr ⟨rfl,h⟩
  ·rename_i h1
   simp only[wantedB,h1]
   exact .inr ⟨trivial,h⟩
  ·cases h
noncomputable def runOps(E:Env)(m:Bool)(call:CallF)(rnd:RoundF)(l:List BI):CodeF:=
 @List.rec BI (fun _=>CodeF) (fun t H k=>k .normal t H)
  (fun i _ ih t H k=>wantF i.g t
   (disp E m i.op t H (fun v=>putT i.d t v fun t'=>ih t' H k) (fun v H'=>putT i.d t v fun t'=>ih t' H' k)
    (fun f args=>callG call rnd f args H (fun v H'=>putT i.d t v fun t'=>ih t' H' k) (fun v H'=>k (.pan v) t H')) (fun v=>k (.pan v) t H))
   (putT i.d t (.tup []) fun t'=>ih t' H k)) l
noncomputable def runDrw(E:Env)(m:Bool)(call:CallF)(l:List (BI×List BI)):CodeF:=
 @List.rec (BI×List BI) (fun _=>CodeF) (fun t H k=>k .normal t H)
  (fun ip _ ih t H k=>wantF ip.1.g t
   (disp E m ip.1.op t H (fun v=>putT ip.1.d t v fun t'=>ih t' H k) (fun v H'=>whenB (pendB E t H' ip.2) (putT ip.1.d t v fun t'=>ih t' H' k))
    (fun f args=>callG call (fun _ _ _ _=>false) f args H (fun v H'=>whenB (pendB E t H' ip.2) (putT ip.1.d t v fun t'=>ih t' H' k)) (fun v H'=>k (.pan v) .nil H')) (fun _=>false))
   (putT ip.1.d t (.tup []) fun t'=>ih t' H k)) l
def XS(k:XK):Res->Prop:=fun r=>∃e t' H',r=.code e t'.get [] H'/\H'.Ok/\k e t' H'=true
def CS(kv kp:HK):Res->Prop:=fun r=>(∃v H',r=.ret v H'/\H'.Ok/\kv v H'=true)\/∃v H',r=.pan v H'/\H'.Ok/\kp v H'=true
def CallFOk(E:Env)(F:Fns)(call:CallF):Prop:=∀(f:FuncId)(args:List LV)(H:LHeap)(kv kp:HK),H.Ok->call f args H kv kp=true->Out E F (.call f args H) (CS kv kp)
def RoundFOk(E:Env)(F:Fns)(rnd:RoundF):Prop:=∀(o:Nat)(args:List LV)(H:LHeap)(kv:LHeap->Bool),H.Ok->rnd o args H kv=true->∃fo ps k ba bb T1 T2,look o H.objs=some (.rcd false fo ps k) /\
 F.rng k fo.length ba bb/\args.length=ps.length/\(ps.all fun p=>decide (p<fo.length))=true/\Out E F (.code ba (setPs (frOf fo) ps args) [] H) T1 /\
 (∀e fr1 df1 H1,T1 (.code e fr1 df1 H1)->e=.normal/\isR o false H1=true) /\
 (∀fr1 df1 H1,T1 (.code .normal fr1 df1 H1)->Out E F (.code bb fr1 [] (busyH o true H1)) T2) /\
 (∀e fr2 df2 H2,T2 (.code e fr2 df2 H2)->e=.normal/\isR o true H2=true) /\
 (∀fr2 df2 H2,T2 (.code .normal fr2 df2 H2)->LHeap.Ok (busyH o false H2)/\kv (busyH o false H2)=true)
def CodeFOk(E:Env)(F:Fns)(c:BCode)(r:CodeF):Prop:=∀(t:FT)(H:LHeap)(k:XK),H.Ok->r t H k=true->Out E F (.code c t.get [] H) (XS k)
section
variable{E:Env}{F:Fns}{m:Bool}{call:CallF}{rnd:RoundF}
theorem runOps_ok(hc:CallFOk E F call)(hr:RoundFOk E F rnd):∀l:List BI,CodeFOk E F (.ops l) (runOps E m call rnd l)
 |[]=>fun t H k hH h=>.nil ⟨.normal,t,H,rfl,hH,h⟩
 |i::l=>by
  intro t H k hH h
  have ih:=runOps_ok hc hr l
  rcases wantF_spec (show wantF i.g t _ _=true from h) with⟨hw,h⟩|⟨hw,h⟩
  ·rcases disp_ok E m i.op t H _ _ _ _ h with⟨v,hv,h⟩|⟨v,H',hv,h⟩|⟨g,args,hv,h⟩|⟨x,as,o,hop,hv,h⟩|⟨x,ty,v,hop,hv,h⟩
   ·obtain⟨t',h1,h2⟩:=putT_spec h
    exact .val hw hv (by rw[<-h2];exact ih t' H k hH h1)
   ·obtain⟨t',h1,h2⟩:=putT_spec h
    exact .eff hw hv (by rw[<-h2];exact ih t' H' k (effR_ok hH hv) h1)
   ·refine .call hw hv (hc g args H _ _ hH h) (fun v H' hT=>?_) (fun v H' hT=>?_)
    ·rcases hT with⟨v',H'',he,hok,hk⟩|⟨v',H'',he,hok,hk⟩<;>cases he
     obtain⟨t',h1,h2⟩:=putT_spec hk
     rw[<-h2];exact ih t' _ k hok h1
    ·rcases hT with⟨v',H'',he,hok,hk⟩|⟨v',H'',he,hok,hk⟩<;>cases he
     exact⟨.pan v,t,H',rfl,hok,hk⟩
   ·obtain⟨fo,ps,q,ba,bb,T1,T2,r1,r2,r3,r4,r5,r6,r7,r8,r9⟩:=hr o _ H _ hH h
    refine .yld hw hop hv r1 r2 (by simpa [evs] using r3) r4 r5 r6 r7 (fun e fr2 df2 H2 hT=>by obtain⟨rfl,h⟩:=r8 e fr2 df2 H2 hT;exact⟨trivial,h⟩) (fun fr2 df2 H2 hT=>?_) fun j fr2 df2 H2 hT=>by
     have:=(r8 _ fr2 df2 H2 hT).1
     cases j<;>cases this
    obtain⟨hok,hk⟩:=r9 fr2 df2 H2 hT
    obtain⟨t',h1,h2⟩:=putT_spec hk
    rw[<-h2];exact ih t' _ k hok h1
   ·exact .pan hw hop hv ⟨.pan _,t,H,by rw[hv],hH,h⟩
  ·obtain⟨t',h1,h2⟩:=putT_spec h
   exact .pass hw (by rw[<-h2];exact ih t' H k hH h1)
theorem runDrw_ok(hc:CallFOk E F call):∀l:List (BI×List BI),CodeFOk E F (.drw l) (runDrw E m call l)
 |[]=>fun t H k hH h=>.drw_nil ⟨.normal,t,H,rfl,hH,h⟩
 |(i,p)::l=>by
  intro t H k hH h
  have ih:=runDrw_ok hc l
  rcases wantF_spec (show wantF i.g t _ _=true from h) with⟨hw,h⟩|⟨hw,h⟩
  ·rcases disp_ok E m i.op t H _ _ _ _ h with⟨v,hv,h⟩|⟨v,H',hv,h⟩|⟨g,args,hv,h⟩|⟨x,as,o,hop,hv,h⟩|⟨x,ty,v,hop,hv,h⟩
   ·obtain⟨t',h1,h2⟩:=putT_spec h
    exact .drw_val hw hv (by rw[<-h2];exact ih t' H k hH h1)
   ·obtain⟨hp,h⟩:=whenB_spec h
    obtain⟨t',h1,h2⟩:=putT_spec h
    exact .drw_eff hw hv (pendB_spec hp) (by rw[<-h2];exact ih t' H' k (effR_ok hH hv) h1)
   ·refine .drw_call hw hv (hc g args H _ _ hH h) (fun v H' hT=>?_) (fun v H' hT=>?_) (fun v H' hT=>?_)
    ·rcases hT with⟨v',H'',he,hok,hk⟩|⟨v',H'',he,hok,hk⟩<;>cases he
     exact pendB_spec (whenB_spec hk).1
    ·rcases hT with⟨v',H'',he,hok,hk⟩|⟨v',H'',he,hok,hk⟩<;>cases he
     obtain⟨t',h1,h2⟩:=putT_spec (whenB_spec hk).2
     rw[<-h2];exact ih t' _ k hok h1
    ·rcases hT with⟨v',H'',he,hok,hk⟩|⟨v',H'',he,hok,hk⟩<;>cases he
     exact⟨.pan v,.nil,H',rfl,hok,hk⟩
   ·cases h
   ·cases h
  ·obtain⟨t',h1,h2⟩:=putT_spec h
   exact .drw_pass hw (by rw[<-h2];exact ih t' H k hH h1)
end
structure FnI where
 b:BFn
 depth:Nat
 asl:Bool
 keep:Bool
 frz:Bool
structure Cfg where
 E:Env
 tab:FuncId->Option FnI
 prim:FuncId->Option (List LV->LHeap->HK->HK->Bool)
 rng:Nat->Option (BCode×BCode×Nat×Nat):=fun _=>none
def arrIds(n0:Nat):List (Nat×LObj)->List Nat
 |[]=>[]
 |(j,.arr _ _)::r=>match Nat.ble n0 j with
  |true=>j::arrIds n0 r
  |false=>[]
 |(j,_)::r=>match Nat.ble n0 j with
  |true=>arrIds n0 r
  |false=>[]
noncomputable def doneF(i:FnI)(n0:Nat)(v:LV)(H:LHeap)(kv:HK):Bool:=
 @Bool.rec (fun _=>Bool) (@Bool.rec (fun _=>Bool) (kv v (gcH n0 H)) (kv v H) i.keep) (kv (frzV H (arrIds n0 H.objs) v) (gcH n0 (H.dels (arrIds n0 H.objs)))) i.frz
noncomputable def finish(i:FnI)(n0:Nat)(kv kp:HK):XK:=fun e t H=>match e with
 |.normal=>isOk (resultL H t.get i.b.res) fun v=>doneF i n0 v H kv
 |.ret=>isOk (resultL H t.get i.b.res) fun v=>doneF i n0 v H kv
 |.pan v=>kp v H
 |.exit _=>false
noncomputable def enterF(run:Bool->BCode->CodeF)(i:FnI)(args:List LV)(H:LHeap)(kv kp:HK):Bool:=
 whenB (Nat.ble args.length i.b.n) (FT.args args 0 (FT.full i.depth) fun t=>run i.asl i.b.body t H (finish i H.next kv kp))
noncomputable def callF(C:Cfg)(run:Bool->BCode->CodeF):CallF:=fun f args H kv kp=>
 match C.prim f with
 |some p=>p args H kv kp
 |none=>isOk (C.tab f) fun i=>enterF run i args H kv kp
noncomputable def setPsF:List Nat->List LV->FT->(FT->Bool)->Bool
 |p::ps,v::vs,t,c=>t.setK p v fun t'=>setPsF ps vs t' c
 |_,_,t,c=>c t
def isN(e:LExit):Bool:=match e with
 |.normal=>true
 |_=>false
noncomputable def roundF(C:Cfg)(run:Bool->BCode->CodeF):RoundF:=fun o args H kv=>
 match look o H.objs with
 |some (.rcd false fo ps k)=>isOk (C.rng k) fun(r:BCode×BCode×Nat×Nat)=>
  whenB (Nat.beq args.length ps.length) (whenB (Nat.beq fo.length r.2.2.1) (whenB (ps.all fun p=>Nat.blt p fo.length)
   (FT.args fo 0 (FT.full r.2.2.2) fun t=>setPsF ps args t fun t=>
    run false r.1 t H fun e t1 H1=>whenB (isN e) (whenB (isR o false H1) (run false r.2.1 t1 (busyH o true H1) fun e _ H2=>whenB (isN e) (whenB (isR o true H2) (kv (busyH o false H2))))))))
 |_=>false
noncomputable def cSeq(ra rb:CodeF):CodeF:=fun t H k=>ra t H fun e t' H'=>match e with
 |.normal=>rb t' H' k
 |e=>k e t' H'
noncomputable def cCond(E:Env)(c:BO)(ra rb:CodeF):CodeF:=fun t H k=>asBool (ev E c t) fun b=>@Bool.rec (fun _=>Bool) (rb t H k) (ra t H k) b
noncomputable def cBlk(id:Nat)(ra:CodeF):CodeF:=fun t H k=>ra t H fun e t' H'=>match e with
 |.exit j=>@Bool.rec (fun _=>Bool) (k (.exit j) t' H') (k .normal t' H') (Nat.beq j id)
 |e=>k e t' H'
noncomputable def noCode:CodeF:=fun _ _ _=>false
noncomputable def evalC(C:Cfg)(n:Nat):Bool->BCode->CodeF:=
 @Nat.rec (fun _=>Bool->BCode->CodeF) (fun _ _=>noCode) (fun _ ih m c=>
  @BCode.rec (fun _=>CodeF)
   (fun t H k=>k .normal t H)
   (fun l=>runOps C.E m (callF C ih) (roundF C ih) l)
   (fun l=>runDrw C.E m (callF C ih) l)
   (fun a b _ _=>cSeq (ih m a) (ih m b))
   (fun c a b _ _=>cCond C.E c (ih m a) (ih m b))
   (fun id c _=>cBlk id (ih m c))
   (fun c _=>cSeq (ih m c) (ih m (.loop c)))
   (fun _ _ _ _ _ _=>noCode)
   (fun id t H k=>k (.exit id) t H)
   (fun t H k=>k .ret t H)
   noCode c) n
structure CfgOk(C:Cfg)(F:Fns):Prop where
 tab:∀f i,C.tab f=some i->F.fn f i.b
 prim:∀f p,C.prim f=some p->∀(args:List LV)(H:LHeap)(kv kp:HK),H.Ok->p args H kv kp=true->Out C.E F (.call f args H) (CS kv kp)
 rng:∀k ba bb N d,C.rng k=some (ba,bb,N,d)->F.rng k N ba bb
section
variable{C:Cfg}{F:Fns}
theorem done_spec{i:FnI}{n0:Nat}{v:LV}{H:LHeap}{kv:HK}(hH:H.Ok)(h:doneF i n0 v H kv=true):
  (i.frz=false/\∃H',HWk H H'/\H'.Ok/\kv v H'=true)\/(i.frz=true/\∃H',HWk (H.dels (arrIds n0 H.objs)) H'/\H'.Ok/\kv (frzV H (arrIds n0 H.objs) v) H'=true):=by
 unfold doneF at h
 cases hf:i.frz with
 |false=>
  rw[hf]at h
  cases hk:i.keep with
  |false=>rw[hk]at h;exact .inl ⟨rfl,_,(gcH_ok hH n0).2,(gcH_ok hH n0).1,h⟩
  |true=>rw[hk]at h;exact .inl ⟨rfl,H,⟨Nat.le_refl _,fun _ _ h=>h⟩,hH,h⟩
 |true=>
  rw[hf]at h
  have hd:(H.dels (arrIds n0 H.objs)).Ok:=Desc.dels hH
  exact .inr ⟨rfl,_,(gcH_ok hd n0).2,(gcH_ok hd n0).1,h⟩
theorem enterF_ok{run:Bool->BCode->CodeF}{f:FuncId}{i:FnI}(hr:CodeFOk C.E F i.b.body (run i.asl i.b.body))(hf:F.fn f i.b){args:List LV}{H:LHeap}{kv kp:HK}(hH:H.Ok)
  (h:enterF run i args H kv kp=true):Out C.E F (.call f args H) (CS kv kp):=by
 obtain⟨hn,h⟩:=whenB_spec h
 obtain⟨t,h1,h2⟩:=FT.args_fr h
 have hb:=hr t H _ hH h1
 rw[h2]at hb
 have fin:∀(e:LExit)(t':FT)(H':LHeap),H'.Ok->e=.normal\/e=.ret->finish i H.next kv kp e t' H'=true->∃v,resultL H' t'.get i.b.res=some v/\doneF i H.next v H' kv=true:=by
  intro e t' H' _ he hk
  rcases he with rfl|rfl<;>exact isOk_spec hk
 by_cases hfz:i.frz=true
 ·refine .frz (T:=fun r=>(∃v H',r=.ret v H'/\H'.Ok/\doneF i H.next v H' kv=true)\/∃v H',r=.pan v H'/\H'.Ok/\kp v H'=true) (fun _ H'=>arrIds H.next H'.objs) ?_ (fun v H' hT=>?_) (fun v H' hT=>?_)
  ·refine .enter hf (Nat.le_of_ble_eq_true hn) hb (fun fr df H' hT=>?_) (fun v fr df H' hT=>?_) (fun n fr df H' hT=>?_)
   ·have:∃(e:LExit)(t':FT),(e=.normal\/e=.ret)/\fr=t'.get/\df=[]/\H'.Ok/\finish i H.next kv kp e t' H'=true:=by
     rcases hT with⟨e,t',H'',he,hok,hk⟩|⟨e,t',H'',he,hok,hk⟩<;>cases he
     ·exact⟨.ret,t',.inr rfl,rfl,rfl,hok,hk⟩
     ·exact⟨.normal,t',.inl rfl,rfl,rfl,hok,hk⟩
    obtain⟨e,t',he,rfl,rfl,hok,hk⟩:=this
    obtain⟨v,hv,hd⟩:=fin e t' H' hok he hk
    exact⟨rfl,v,v,H',hv,.inl rfl,⟨Nat.le_refl _,fun _ _ h=>h⟩,.inl ⟨v,H',rfl,hok,hd⟩⟩
   ·obtain⟨e,t',H'',he,hok,hk⟩:=hT
    cases he
    exact⟨rfl,v,H',.inl rfl,⟨Nat.le_refl _,fun _ _ h=>h⟩,.inr ⟨v,H',rfl,hok,hk⟩⟩
   ·obtain⟨e,t',H'',he,hok,hk⟩:=hT
    cases he
    cases hk
  ·rcases hT with⟨v',H'',he,hok,hk⟩|⟨v',H'',he,hok,hk⟩<;>cases he
   rcases done_spec hok hk with⟨hf0,_⟩|⟨_,H1,h3,h4,h5⟩
   ·rw[hfz]at hf0;cases hf0
   ·exact⟨H1,h3,.inl ⟨_,H1,rfl,h4,h5⟩⟩
  ·rcases hT with⟨v',H'',he,hok,hk⟩|⟨v',H'',he,hok,hk⟩<;>cases he
   exact .inr ⟨v,H',rfl,hok,hk⟩
 ·refine .enter hf (Nat.le_of_ble_eq_true hn) hb (fun fr df H' hT=>?_) (fun v fr df H' hT=>?_) (fun n fr df H' hT=>?_)
  ·have:∃(e:LExit)(t':FT),(e=.normal\/e=.ret)/\fr=t'.get/\df=[]/\H'.Ok/\finish i H.next kv kp e t' H'=true:=by
    rcases hT with⟨e,t',H'',he,hok,hk⟩|⟨e,t',H'',he,hok,hk⟩<;>cases he
    ·exact⟨.ret,t',.inr rfl,rfl,rfl,hok,hk⟩
    ·exact⟨.normal,t',.inl rfl,rfl,rfl,hok,hk⟩
   obtain⟨e,t',he,rfl,rfl,hok,hk⟩:=this
   obtain⟨v,hv,hd⟩:=fin e t' H' hok he hk
   rcases done_spec hok hd with⟨_,H1,h3,h4,h5⟩|⟨hf1,_⟩
   ·exact⟨rfl,v,v,H1,hv,.inl rfl,h3,.inl ⟨v,H1,rfl,h4,h5⟩⟩
   ·exact absurd hf1 hfz
  ·obtain⟨e,t',H'',he,hok,hk⟩:=hT
   cases he
   exact⟨rfl,v,H',.inl rfl,⟨Nat.le_refl _,fun _ _ h=>h⟩,.inr ⟨v,H',rfl,hok,hk⟩⟩
  ·obtain⟨e,t',H'',he,hok,hk⟩:=hT
   cases he
   cases hk
theorem CodeFOk.seq{E:Env}{F:Fns}{a b:BCode}{ra rb:CodeF}(ha:CodeFOk E F a ra)(hb:CodeFOk E F b rb):CodeFOk E F (.seq a b) (cSeq ra rb):=by
 intro t H k hH h
 refine .seq (ha t H _ hH h) (fun fr df H' hT=>?_) (fun e fr df H' hT hne=>?_)
 ·obtain⟨e,t',H'',he,hok,hk⟩:=hT
  cases he
  exact hb t' H' k hok hk
 ·obtain⟨e',t',H'',he,hok,hk⟩:=hT
  cases he
  cases e with
  |normal=>exact absurd rfl hne
  |exit n=>exact⟨_,t',H',rfl,hok,hk⟩
  |ret=>exact⟨_,t',H',rfl,hok,hk⟩
  |pan v=>exact⟨_,t',H',rfl,hok,hk⟩
theorem callF_ok{run:Bool->BCode->CodeF}(hC:CfgOk C F)(hr:∀m c,CodeFOk C.E F c (run m c)):CallFOk C.E F (callF C run):=by
 intro f args H kv kp hH h
 unfold callF at h
 split at h
 ·rename_i p hp
  exact hC.prim f p hp args H kv kp hH h
 ·obtain⟨i,h1,h2⟩:=isOk_spec h
  exact enterF_ok (hr _ _) (hC.tab f i h1) hH h2
theorem setPsF_spec:∀{ps:List Nat}{vs:List LV}{t:FT}{c:FT->Bool},setPsF ps vs t c=true->∃t',c t'=true/\t'.get=setPs t.get ps vs
 |p::ps,v::vs,t,c,h=>by
  obtain⟨t1,h1,h2⟩:=FT.setK_spec (show t.setK p v (fun t'=>setPsF ps vs t' c)=true from h)
  obtain⟨t2,h3,h4⟩:=setPsF_spec h1
  exact⟨t2,h3,by rw[h4,h2];rfl⟩
 |[],[],t,c,h=>⟨t,h,rfl⟩
 |[],_::_,t,c,h=>⟨t,h,rfl⟩
 |_::_,[],t,c,h=>⟨t,h,rfl⟩
theorem isN_spec{e:LExit}(h:isN e=true):e=.normal:=by cases e<;>simp_all [isN]
theorem busyH_ok{o:Nat}{b:Bool}{H:LHeap}(h:H.Ok):(busyH o b H).Ok:=by
 unfold busyH;split
 ·exact Desc.put h
 ·exact h
theorem roundF_ok{run:Bool->BCode->CodeF}(hC:CfgOk C F)(hr:∀m c,CodeFOk C.E F c (run m c)):RoundFOk C.E F (roundF C run):=by
 intro o args H kv hH h
 unfold roundF at h
 split at h
 ·rename_i fo ps k hl
  obtain⟨⟨ba,bb,N,d⟩,hk,h⟩:=isOk_spec h
  obtain⟨h1,h⟩:=whenB_spec h
  obtain⟨hN,h⟩:=whenB_spec h
  have hN:fo.length=N:=Nat.eq_of_beq_eq_true hN
  obtain⟨h2,h⟩:=whenB_spec h
  obtain⟨t,h,ht⟩:=FT.args_fr h
  obtain⟨t',h,ht'⟩:=setPsF_spec h
  have hb:=hr false ba t' H _ hH h
  rw[ht',ht]at hb
  refine⟨fo,ps,k,ba,bb,_,fun r=>∃(e:LExit)(t2:FT)(H2:LHeap),r=.code e t2.get [] H2/\H2.Ok/\whenB (isN e) (whenB (isR o true H2) (kv (busyH o false H2)))=true,hl,by rw[hN];exact hC.rng _ _ _ _ _ hk,Nat.eq_of_beq_eq_true h1,by simpa using h2,hb,fun e fr1 df1 H1 hT=>?_,
   fun fr1 df1 H1 hT=>?_,fun e fr2 df2 H2 hT=>?_,fun fr2 df2 H2 hT=>?_⟩
  ·obtain⟨e',t1,H1',he,hok,hk1⟩:=hT
   cases he
   obtain⟨q1,q2⟩:=whenB_spec hk1
   exact⟨isN_spec q1,(whenB_spec q2).1⟩
  ·obtain⟨e',t1,H1',he,hok,hk1⟩:=hT
   cases he
   obtain⟨q1,q2⟩:=whenB_spec hk1
   exact hr false bb t1 _ _ (busyH_ok hok) (whenB_spec q2).2
  ·obtain⟨e',t2,H2',he,hok,hk2⟩:=hT
   cases he
   obtain⟨q1,q2⟩:=whenB_spec hk2
   exact⟨isN_spec q1,(whenB_spec q2).1⟩
  ·obtain⟨e',t2,H2',he,hok,hk2⟩:=hT
   cases he
   obtain⟨q1,q2⟩:=whenB_spec hk2
   exact⟨busyH_ok hok,(whenB_spec q2).2⟩
 ·cases h
theorem evalC_ok(hC:CfgOk C F)(n:Nat):∀(m:Bool)(c:BCode),CodeFOk C.E F c (evalC C n m c):=by
 induction n with
 |zero=>intro m c t H k _ h;cases h
 |succ n ih=>
  intro m c
  cases c with
  |skip=>exact fun t H k hH h=>.skip ⟨.normal,t,H,rfl,hH,h⟩
  |ops l=>exact runOps_ok (callF_ok hC ih) (roundF_ok hC ih) l
  |drw l=>exact runDrw_ok (callF_ok hC ih) l
  |seq a b=>
   intro t H k hH h
   refine .seq (ih m a t H _ hH h) (fun fr df H' hT=>?_) (fun e fr df H' hT hne=>?_)
   ·obtain⟨e,t',H'',he,hok,hk⟩:=hT
    cases he
    exact ih m b t' H' k hok hk
   ·obtain⟨e',t',H'',he,hok,hk⟩:=hT
    cases he
    cases e with
    |normal=>exact absurd rfl hne
    |exit n=>exact⟨_,t',H',rfl,hok,hk⟩
    |ret=>exact⟨_,t',H',rfl,hok,hk⟩
    |pan v=>exact⟨_,t',H',rfl,hok,hk⟩
  |cond c a b=>
   intro t H k hH h
   obtain⟨u,h1,h2⟩:=asBool_spec (show asBool (ev C.E c t) _=true from h)
   rw[ev_eq]at h1
   cases u
   ·exact .cond_f h1 (ih m b t H k hH h2)
   ·exact .cond_t h1 (ih m a t H k hH h2)
  |blk id c=>
   intro t H k hH h
   refine .blk (ih m c t H _ hH h) (fun fr df H' hT=>?_) (fun fr df H' hT=>?_) (fun e fr df H' hT hne hid=>?_)
   ·obtain⟨e,t',H'',he,hok,hk⟩:=hT
    cases he
    exact⟨_,t',H',rfl,hok,hk⟩
   ·obtain⟨e,t',H'',he,hok,hk⟩:=hT
    cases he
    have hk':@Bool.rec (fun _=>Bool) (k (.exit id) t' H') (k .normal t' H') (Nat.beq id id)=true:=hk
    rw[Nat.beq_refl]at hk'
    exact⟨_,t',H',rfl,hok,hk'⟩
   ·obtain⟨e',t',H'',he,hok,hk⟩:=hT
    cases he
    cases e with
    |normal=>exact absurd rfl hne
    |exit j=>
     have hb:Nat.beq j id=false:=by
      cases hb:Nat.beq j id with
      |false=>rfl
      |true=>exact absurd (by rw[Nat.eq_of_beq_eq_true hb]) hid
     have hk':@Bool.rec (fun _=>Bool) (k (.exit j) t' H') (k .normal t' H') (Nat.beq j id)=true:=hk
     rw[hb]at hk'
     exact⟨_,t',H',rfl,hok,hk'⟩
    |ret=>exact⟨_,t',H',rfl,hok,hk⟩
    |pan v=>exact⟨_,t',H',rfl,hok,hk⟩
  |loop c=>
   intro t H k hH h
   refine .loop (ih m c t H _ hH h) (fun fr df H' hT=>?_) (fun e fr df H' hT hne=>?_)
   ·obtain⟨e,t',H'',he,hok,hk⟩:=hT
    cases he
    exact ih m (.loop c) t' H' k hok hk
   ·obtain⟨e',t',H'',he,hok,hk⟩:=hT
    cases he
    cases e with
    |normal=>exact absurd rfl hne
    |exit n=>exact⟨_,t',H',rfl,hok,hk⟩
    |ret=>exact⟨_,t',H',rfl,hok,hk⟩
    |pan v=>exact⟨_,t',H',rfl,hok,hk⟩
  |rf f ps a b=>intro t H k _ h;cases h
  |exit id=>exact fun t H k hH h=>.exit ⟨.exit id,t,H,rfl,hH,h⟩
  |ret=>exact fun t H k hH h=>.ret ⟨.ret,t,H,rfl,hH,h⟩
  |bad=>intro t H k _ h;cases h
noncomputable def callE(C:Cfg)(n:Nat)(f:FuncId)(args:List LV)(H:LHeap)(kv kp:HK):Bool:=callF C (evalC C n) f args H kv kp
theorem callE_ok(hC:CfgOk C F){n:Nat}{f:FuncId}{args:List LV}{H:LHeap}{kv kp:HK}(hH:H.Ok)(h:callE C n f args H kv kp=true):Out C.E F (.call f args H) (CS kv kp):=
 callF_ok hC (evalC_ok hC n) f args H kv kp hH h
end
end Go.Abs
