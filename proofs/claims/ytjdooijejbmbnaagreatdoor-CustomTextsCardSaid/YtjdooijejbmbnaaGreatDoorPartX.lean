/- Part of the proof that for every row of clauses, every atom and every source the law CustomTexts returns true. Conditions: none. -/
import Derived.Test.YtjdooijejbmbnaaGreatDoorPartW
import Derived.Test.YtjdooijejbmbnaaGreatDoorPartI
set_option linter.unusedVariables false
set_option linter.unusedSimpArgs false
set_option linter.unusedSectionVars false
namespace Go.Abs.Tz
open Go Go.Abs Go.Proofs
inductive Pc where
 |sk (b:UInt8)
 |wd (k:Int) (w:ByteArray)
 |nm (n:Int)
 |mk (m:List UInt8)
def Pc.b:Pc->List UInt8
 |.sk b=>[b]
 |.wd _ w=>w.data.toList
 |.nm n=>Lib.itoa n
 |.mk m=>m
abbrev TK:=Int×ByteArray×Int
abbrev stripT(t:Tok):TK:=(t.kind,t.text,t.n)
def Pc.tk:Pc->List TK
 |.sk _=>[]
 |.wd k w=>[(k,w,0)]
 |.nm n=>[(3,⟨⟨Lib.itoa n⟩⟩,n)]
 |.mk m=>[(4,⟨⟨m⟩⟩,0)]
def flat:List Pc->List UInt8
 |[]=>[]
 |p::ps=>p.b++flat ps
def tks:List Pc->List TK
 |[]=>[]
 |p::ps=>p.tk++tks ps
def Pc.ok(r:List UInt8):Pc->Prop
 |.sk b=>b=32\/b=10
 |.wd k w=>(∃c w',w.data.toList=c::w'/\letB (c.toNat:Int)=true/\(∀d∈c::w',wordC (d.toNat:Int)=true)/\(c::w').length<=24/\k=wKind w (c.toNat:Int))/\noHead wordC r
 |.nm n=>-1000000000<=n/\n<=1000000000/\noHead wordC r
 |.mk m=>m∈[[40],[41],[44],[46],[61],[60],[33,61],[60,61]]/\(m=[60]->noHead (fun x=>decide (x=61)) r)
def GoodR(r:List UInt8):List Pc->Prop
 |[]=>True
 |p::ps=>p.ok (flat ps++r)/\GoodR r ps
theorem flat_app:∀a b:List Pc,flat (a++b)=flat a++flat b
 |[],b=>rfl
 |p::a,b=>by simp[flat,flat_app a b]
theorem tks_app:∀a b:List Pc,tks (a++b)=tks a++tks b
 |[],b=>rfl
 |p::a,b=>by simp[tks,tks_app a b]
theorem good_app:∀{a b:List Pc}{r:List UInt8},GoodR (flat b++r) a->GoodR r b->GoodR r (a++b)
 |[],b,r,_,h=>h
 |p::a,b,r,h1,h2=>by
  refine⟨?_,good_app h1.2 h2⟩
  have:=h1.1
  show p.ok (flat (a++b)++r)
  rw[flat_app,List.append_assoc]
  exact this
theorem pc_step{s:ByteArray}{i:Nat}{p:Pc}{r:List UInt8}(h:(sL s).drop i=p.b++r)(hp:p.ok r)(T:List Tok)(k:Nat):
  ∃T',lexT s (k+1) i T=lexT s k (i+p.b.length) (T++T')/\T'.map stripT=p.tk/\0<p.b.length:=by
 cases p with
 |sk b=>
  have h:(sL s).drop i=b::r:=h
  have hi:=(byI_cons h).2
  refine⟨[],?_,rfl,by simp[Pc.b]⟩
  rw[lexT_go hi,l_skip h (by rcases hp with rfl|rfl;exact .inl rfl;exact .inr rfl)]
  simp[Pc.b]
 |wd q w=>
  obtain⟨⟨c,w',h1,h2,h3,h4,h5⟩,h6⟩:=hp
  have hb:(Pc.wd q w).b=c::w':=h1
  rw[hb]at h ⊢
  have hi:=(byI_cons (show (sL s).drop i=c::(w'++r) from h)).2
  have hw:(⟨⟨c::w'⟩⟩:ByteArray)=w:=by rw[<-h1]
  have hx:=ext_of h
  refine⟨[⟨q,w,i,0⟩],?_,rfl,by simp⟩
  rw[lexT_go hi,l_word h h2 h3 h4 h6]
  simp only
  rw[hx,hw,<-h5]
 |nm n=>
  obtain⟨h1,h2,h3⟩:=hp
  have h:(sL s).drop i=Lib.itoa n++r:=h
  have hne:∃c w,Lib.itoa n=c::w:=by
   unfold Lib.itoa
   split
   ·exact⟨_,_,rfl⟩
   ·obtain⟨_,_,c,w,e,_⟩:=dec_facts n.toNat
    exact⟨c,w,e⟩
  obtain⟨c,w,hcw⟩:=hne
  have hi:=(byI_cons (show (sL s).drop i=c::(w++r) by rw[h,hcw];rfl)).2
  have hx:=ext_of h
  refine⟨[⟨3,⟨⟨Lib.itoa n⟩⟩,i,n⟩],?_,rfl,by show 0<(Lib.itoa n).length;rw[hcw];simp⟩
  rw[lexT_go hi,l_num h h1 h2 (fun d r' e=>by have:=h3 d r' e;unfold wordC at this;show (digB (d.toNat:Int)||letB (d.toNat:Int))=false;rw[Bool.or_comm];exact this)]
  simp only
  rw[hx]
  rfl
 |mk m=>
  obtain⟨h1,h2⟩:=hp
  have h:(sL s).drop i=m++r:=h
  have hne:∃c w,m=c::w:=by
   simp only[List.mem_cons,List.not_mem_nil,or_false]at h1
   rcases h1 with h|h|h|h|h|h|h|h<;>exact⟨_,_,h⟩
  obtain⟨c,w,hcw⟩:=hne
  have hi:=(byI_cons (show (sL s).drop i=c::(w++r) by rw[h,hcw];rfl)).2
  have hx:=ext_of h
  refine⟨[⟨4,⟨⟨m⟩⟩,i,0⟩],?_,rfl,by show 0<m.length;rw[hcw];simp⟩
  rw[lexT_go hi,l_mark h h1 h2]
  simp only
  rw[hx]
  rfl
theorem lex_pcs{s:ByteArray}:∀(ps:List Pc)(k i:Nat)(T:List Tok),GoodR [] ps->(sL s).drop i=flat ps->ps.length<k->∃L,lexT s k i T=.ok (T++L)/\L.map stripT=tks ps
 |[],k,i,T,_,hd,hk=>by
  obtain⟨k,rfl⟩:∃q,k=q+1:=⟨k - 1,by simp at hk;omega⟩
  have hi:¬i<s.size:=fun hi=>by
   obtain⟨c,_,h2⟩:=byteG hi
   rw[hd]at h2
   cases h2
  exact⟨[],by rw[lexT_end hi];simp,rfl⟩
 |p::ps,k,i,T,hg,hd,hk=>by
  obtain⟨k,rfl⟩:∃q,k=q+1:=⟨k - 1,by simp at hk;omega⟩
  have hp:=hg.1
  rw[List.append_nil]at hp
  obtain⟨T',h1,h2,_⟩:=pc_step (show (sL s).drop i=p.b++flat ps from hd) hp T k
  obtain⟨L,h3,h4⟩:=lex_pcs ps k (i+p.b.length) (T++T') hg.2 (drop_of hd) (by simp at hk;omega)
  exact⟨T'++L,by rw[h1,h3,List.append_assoc],by rw[List.map_append,h2,h4];rfl⟩
theorem pcs_len{s:ByteArray}:∀(ps:List Pc)(r:List UInt8),GoodR r ps->ps.length<=(flat ps).length
 |[],_,_=>Nat.le_refl _
 |p::ps,r,h=>by
  have ih:=pcs_len (s:=s) ps r h.2
  have hp:0<p.b.length:=by
   cases p with
   |sk b=>simp[Pc.b]
   |wd q w=>
    obtain⟨⟨c,w',h1,_⟩,_⟩:=h.1
    show 0<w.data.toList.length
    rw[h1];simp
   |nm n=>
    show 0<(Lib.itoa n).length
    unfold Lib.itoa
    split
    ·simp
    ·obtain⟨_,_,c,w,e,_⟩:=dec_facts n.toNat
     rw[e];simp
   |mk m=>
    have h1:=h.1.1
    simp only[List.mem_cons,List.not_mem_nil,or_false]at h1
    show 0<m.length
    rcases h1 with h|h|h|h|h|h|h|h<;>rw[h]<;>simp
  simp only[flat,List.length_append,List.length_cons]
  omega
theorem lex_text{ps:List Pc}(hg:GoodR [] ps):∃L,lexT ⟨⟨flat ps⟩⟩ ((⟨⟨flat ps⟩⟩:ByteArray).size+1) 0 []=.ok L/\L.map stripT=tks ps:=by
 obtain⟨L,h1,h2⟩:=lex_pcs (s:=⟨⟨flat ps⟩⟩) ps ((⟨⟨flat ps⟩⟩:ByteArray).size+1) 0 [] hg rfl (by have:=pcs_len (s:=⟨⟨flat ps⟩⟩) ps [] hg;rw[ba_size];omega)
 exact⟨L,by simpa using h1,h2⟩
def termPc(t:Term):Pc:=if t.kind=1 then .nm t.n else .wd (t.kind - 1) t.s
def argsPc:List Term->Bool->List Pc
 |[],first=>if first then [] else [.mk [41]]
 |t::r,first=>(if first then [.mk [40]] else [.mk [44],.sk 32])++termPc t::argsPc r false
def atomPc(a:Atom):List Pc:=.wd 1 a.pred::argsPc a.args true
def opX(k:Int):List UInt8:=if k=3 then [61] else if k=4 then [33,61] else if k=5 then [60] else [60,61]
def litPc(x:Lit):List Pc:=if x.kind=1 then atomPc x.atom else if x.kind=2 then .wd 4 bNot::.sk 32::atomPc x.atom else [termPc x.a,.sk 32,.mk (opX x.kind),.sk 32,termPc x.b]
def bodyPc:List Lit->Bool->List Pc
 |[],_=>[]
 |x::r,first=>(if first then [.sk 32,.wd 4 bIf,.sk 32] else [.mk [44],.sk 32])++litPc x++bodyPc r false
def clausePc(c:Clause):List Pc:=atomPc c.head++bodyPc c.body true++[.mk [46],.sk 10]
theorem sk_b(b:UInt8):(Pc.sk b).b=[b]:=rfl
theorem mk_b(m:List UInt8):(Pc.mk m).b=m:=rfl
theorem wd_b(k:Int)(w:ByteArray):(Pc.wd k w).b=w.data.toList:=rfl
theorem termPc_b(t:Term):(termPc t).b=(termX t).data.toList:=by
 unfold termPc termX
 split<;>rfl
theorem argsPc_flat:∀(l:List Term)(f:Bool),flat (argsPc l f)=argsX l f
 |[],f=>by cases f<;>rfl
 |t::r,f=>by
  have ih:=argsPc_flat r false
  cases f<;>simp[argsPc,argsX,flat_app,flat,ih,termPc_b,sk_b,mk_b]
theorem atomPc_flat(a:Atom):flat (atomPc a)=(atomX a).data.toList:=by
 unfold atomPc atomX
 simp[flat,argsPc_flat,wd_b]
theorem litPc_flat(x:Lit):flat (litPc x)=(litX x).data.toList:=by
 unfold litPc litX
 split
 ·exact atomPc_flat _
 split
 ·simp[flat,atomPc_flat,sk_b,wd_b,bNot]
 ·unfold opX
  (repeat' split)<;>simp[flat,termPc_b,sk_b,mk_b]
theorem bodyPc_flat:∀(b:List Lit)(f:Bool),flat (bodyPc b f)=bodyX b f
 |[],f=>rfl
 |x::r,f=>by
  have ih:=bodyPc_flat r false
  cases f<;>simp[bodyPc,bodyX,flat_app,flat,ih,litPc_flat,sk_b,mk_b,wd_b,bIf]
theorem clausePc_flat(c:Clause):flat (clausePc c)=clauseX c:=by
 unfold clausePc clauseX
 simp[flat_app,flat,atomPc_flat,bodyPc_flat,sk_b,mk_b]
theorem nh{c:UInt8}(h:wordC (c.toNat:Int)=false)(r:List UInt8):noHead wordC (c::r):=fun d r' e=>by cases e;exact h
theorem word_pc{lo hi:Int}{w:ByteArray}{k:Int}{r:List UInt8}(h:wordOk lo hi w=true)(hl:(lo=97/\hi=122/\k=1)\/(lo=65/\hi=90/\k=2))(hr:noHead wordC r):(Pc.wd k w).ok r:=by
 unfold wordOk at h
 simp only[Bool.and_eq_true,decide_eq_true_eq,Bool.not_eq_true']at h
 obtain⟨h1,h2,h3,h4,h5,h6⟩:=h
 have hsz:(sL w).length=w.size:=sL_length w
 cases hw:sL w with
 |nil=>rw[hw]at hsz;simp at hsz;omega
 |cons c w'=>
  rw[hw]at h5 h6 hsz
  unfold firstB at h5
  simp only[Bool.and_eq_true,decide_eq_true_eq]at h5
  have hall:∀d∈c::w',wordC (d.toNat:Int)=true:=by
   intro d hd
   have:=runN_take wordC (c::w') d
   rw[h6,<-hsz,List.take_length]at this
   exact this hd
  have hlet:letB (c.toNat:Int)=true:=by
   simp only[letB,smallB,capB,Bool.or_eq_true,Bool.and_eq_true,decide_eq_true_eq]
   omega
  refine⟨⟨c,w',hw,hlet,hall,by omega,?_⟩,hr⟩
  unfold wKind
  have e1:eqBA w bIf=false:=h3
  have e2:eqBA w bNot=false:=h4
  rw[e1,e2]
  simp only[Bool.or_self,Bool.false_eq_true,if_false]
  rcases hl with⟨a,b,c⟩|⟨a,b,c⟩
  ·rw[if_neg (by omega),c]
  ·rw[if_pos (by omega),c]
theorem termPc_ok{t:Term}{r:List UInt8}(h:termOk t=true)(hr:noHead wordC r):(termPc t).ok r:=by
 unfold termOk at h
 unfold termPc
 split at h
 ·rename_i h1
  rw[if_pos h1]
  simp only[Bool.and_eq_true,decide_eq_true_eq]at h
  exact⟨h.2.1,h.2.2,hr⟩
 rename_i h1
 rw[if_neg h1]
 split at h
 ·rename_i h2
  simp only[Bool.and_eq_true]at h
  exact word_pc h.2 (.inl ⟨rfl,rfl,by omega⟩) hr
 split at h
 ·rename_i h2
  simp only[Bool.and_eq_true]at h
  exact word_pc h.2 (.inr ⟨rfl,rfl,by omega⟩) hr
 ·cases h
theorem argsX_nh:∀(l:List Term){r:List UInt8},noHead wordC (argsX l false++r)
 |[],r=>nh rfl _
 |t::l,r=>nh rfl _
theorem argsPc_ok:∀{l:List Term}{f:Bool}{r:List UInt8},l.all termOk=true->GoodR r (argsPc l f)
 |[],true,r,_=>trivial
 |[],false,r,_=>⟨⟨by simp,fun h=>by cases h⟩,trivial⟩
 |t::l,f,r,h=>by
  simp only[List.all_cons,Bool.and_eq_true]at h
  have ih:=argsPc_ok (f:=false) (r:=r) h.2
  have hg:GoodR r (termPc t::argsPc l false):=⟨termPc_ok h.1 (by rw[argsPc_flat];exact argsX_nh l),ih⟩
  cases f
  ·exact⟨⟨by simp,fun h=>by cases h⟩,.inl rfl,hg⟩
  ·exact⟨⟨by simp,fun h=>by cases h⟩,hg⟩
theorem atomPc_ok{a:Atom}{r:List UInt8}(h:atomOk a=true)(hr:noHead wordC r):GoodR r (atomPc a):=by
 unfold atomOk at h
 simp only[Bool.and_eq_true,decide_eq_true_eq]at h
 refine⟨word_pc h.1 (.inl ⟨rfl,rfl,rfl⟩) ?_,argsPc_ok h.2.2⟩
 rw[argsPc_flat]
 cases a.args with
 |nil=>exact hr
 |cons t l=>exact nh rfl _
theorem op_ok(k:Int)(r:List UInt8):(Pc.mk (opX k)).ok (32::r):=by
 refine⟨?_,fun _ d r' e=>by cases e;rfl⟩
 unfold opX
 (repeat' split)<;>simp
theorem litPc_ok{x:Lit}{r:List UInt8}(h:litOk x=true)(hr:noHead wordC r):GoodR r (litPc x):=by
 unfold litPc
 split
 ·exact atomPc_ok (litX_12 h (.inl ‹_›)) hr
 split
 ·refine⟨⟨⟨110,[111,116],rfl,rfl,?_,by simp,?_⟩,nh rfl _⟩,.inl rfl,atomPc_ok (litX_12 h (.inr ‹_›)) hr⟩
  ·intro d hd
   simp only[List.mem_cons,List.not_mem_nil,or_false]at hd
   rcases hd with rfl|rfl|rfl<;>rfl
  ·unfold wKind
   rw[eqBA_self,Bool.or_true,if_pos rfl]
 ·rename_i h1 h2
  obtain⟨ha,hb,_⟩:=litX_36 h (fun hh=>hh.elim h1 h2)
  exact⟨termPc_ok ha (nh rfl _),.inl rfl,op_ok _ _,.inl rfl,termPc_ok hb hr,trivial⟩
theorem bodyX_nh{r:List UInt8}(hr:noHead wordC r):∀(b:List Lit)(f:Bool),noHead wordC (bodyX b f++r)
 |[],f=>hr
 |x::b,true=>nh rfl _
 |x::b,false=>nh rfl _
theorem bodyPc_ok{r:List UInt8}(hr:noHead wordC r):∀{b:List Lit}{f:Bool},(∀x∈b,litOk x=true)->GoodR r (bodyPc b f)
 |[],_,_=>trivial
 |x::b,f,h=>by
  have ih:=bodyPc_ok hr (b:=b) (f:=false) fun y hy=>h y (List.mem_cons_of_mem _ hy)
  have hx:GoodR r (litPc x++bodyPc b false):=good_app (litPc_ok (h x List.mem_cons_self) (by rw[bodyPc_flat];exact bodyX_nh hr b false)) ih
  cases f
  ·show GoodR r ((Pc.mk [44]::Pc.sk 32::litPc x)++bodyPc b false)
   exact⟨⟨by simp,fun h=>by cases h⟩,.inl rfl,hx⟩
  ·show GoodR r ((Pc.sk 32::Pc.wd 4 bIf::Pc.sk 32::litPc x)++bodyPc b false)
   refine⟨.inl rfl,⟨⟨105,[102],rfl,rfl,?_,by simp,?_⟩,nh rfl _⟩,.inl rfl,hx⟩
   ·intro d hd
    simp only[List.mem_cons,List.not_mem_nil,or_false]at hd
    rcases hd with rfl|rfl<;>rfl
   ·unfold wKind
    rw[eqBA_self,Bool.true_or,if_pos rfl]
theorem clausePc_ok{c:Clause}{r:List UInt8}(h:clauseOk c=true):GoodR r (clausePc c):=by
 obtain⟨h1,_,h3⟩:=clause_parts h
 unfold clausePc
 refine good_app (good_app (atomPc_ok h1 ?_) (bodyPc_ok (nh rfl _) h3)) ⟨⟨by simp,fun h=>by cases h⟩,.inr rfl,trivial⟩
 rw[bodyPc_flat]
 exact bodyX_nh (nh rfl _) _ _
def clausesPc:List Clause->List Pc
 |[]=>[]
 |c::l=>clausePc c++clausesPc l
theorem clausesPc_ok:∀{l:List Clause},(∀c∈l,clauseOk c=true)->GoodR [] (clausesPc l)
 |[],_=>trivial
 |c::l,h=>good_app (clausePc_ok (h c List.mem_cons_self)) (clausesPc_ok fun d hd=>h d (List.mem_cons_of_mem _ hd))
theorem printF_pc:∀{l:List Clause}(acc:List UInt8),(∀c∈l,clauseOk c=true)->printF l acc=(acc++flat (clausesPc l),0)
 |[],acc,_=>by simp[printF,clausesPc,flat]
 |c::l,acc,h=>by
  unfold printF
  rw[if_neg (by rw[h c List.mem_cons_self];simp),printF_pc _ fun d hd=>h d (List.mem_cons_of_mem _ hd)]
  simp[clausesPc,flat_app,clausePc_flat]
end Go.Abs.Tz
namespace Go.Abs.Tz
open Go Go.Abs Go.Proofs
theorem eqBA_ne{l m:List UInt8}(h:l≠m):eqBA ⟨⟨l⟩⟩ ⟨⟨m⟩⟩=false:=by
 cases hc:eqBA ⟨⟨l⟩⟩ ⟨⟨m⟩⟩
 ·rfl
 ·have:=eqBA_iff.1 hc
  injection this with h1
  injection h1 with h2
  exact absurd h2 h
section
variable{L:List Tok}{K:List TK}(hK:L.map stripT=K)
include hK
theorem tk_at{i:Nat}{t:TK}{r:List TK}(h:K.drop i=t::r):∃hi:i<L.length,L[i].kind=t.1/\L[i].text=t.2.1/\L[i].n=t.2.2/\K.drop (i+1)=r:=by
 have hi:i<K.length:=by
  apply Classical.byContradiction
  intro hn
  rw[List.drop_eq_nil_of_le (by omega)]at h
  cases h
 rw[List.drop_eq_getElem_cons hi]at h
 injection h with h1 h2
 subst hK
 rw[List.length_map]at hi
 rw[List.getElem_map]at h1
 exact⟨hi,congrArg Prod.fst h1,congrArg (fun x=>x.2.1) h1,congrArg (fun x=>x.2.2) h1,h2⟩
theorem isM_at{i:Nat}{k:Int}{x:ByteArray}{n:Int}{r:List TK}(h:K.drop i=(k,x,n)::r)(y:ByteArray):isM L i y=(decide (k=4)&&eqBA x y):=by
 obtain⟨hi,h1,h2,_,_⟩:=tk_at hK h
 unfold isM
 rw[dif_pos hi,h1,h2]
theorem isM_end{i:Nat}(h:K.drop i=[])(y:ByteArray):isM L i y=false:=by
 unfold isM
 rw[dif_neg]
 intro hi
 have:L.length<=i:=by
  subst hK
  have:=List.drop_eq_nil_iff.1 h
  rw[List.length_map]at this
  exact this
 omega
theorem kAt_at{i:Nat}{k:Int}{x:ByteArray}{n:Int}{r:List TK}(h:K.drop i=(k,x,n)::r):kAt L i=k/\txtAt L i=x/\i<L.length:=by
 obtain⟨hi,h1,h2,_,_⟩:=tk_at hK h
 unfold kAt txtAt
 rw[dif_pos hi,dif_pos hi]
 exact⟨h1,h2,hi⟩
theorem term_at{i:Nat}{t:Term}{r:List TK}(ht:termOk t=true)(h:K.drop i=(termPc t).tk++r):termP L i=some t/\K.drop (i+1)=r/\(∀y,isM L i y=false)/\i<L.length/\(kAt L i=1↔t.kind=2):=by
 obtain⟨k,n,x⟩:=t
 unfold termOk at ht
 dsimp only at ht
 unfold termPc at h
 dsimp only at h
 split at ht
 ·rename_i h1
  rw[if_pos h1]at h
  simp only[Bool.and_eq_true,decide_eq_true_eq]at ht
  obtain⟨hi,a1,a2,a3,a4⟩:=tk_at hK (show K.drop i=(3,⟨⟨Lib.itoa n⟩⟩,n)::r from h)
  refine⟨?_,a4,fun y=>by rw[isM_at hK (show K.drop i=(3,⟨⟨Lib.itoa n⟩⟩,n)::r from h)];rfl,hi,?_⟩
  ·unfold termP tokT
   rw[dif_pos hi,a1,if_neg (by simp),if_neg (by simp),if_pos rfl,a3,h1]
   have:=eqBA_iff.1 ht.1
   rw[<-this]
  ·rw[(kAt_at hK (show K.drop i=(3,⟨⟨Lib.itoa n⟩⟩,n)::r from h)).1]
   dsimp only
   omega
 rename_i h1
 rw[if_neg h1]at h
 have gen:∀q:Int,(q=1/\k=2)\/(q=2/\k=3)->n=0->K.drop i=(q,x,0)::r->termP L i=some ⟨k,n,x⟩/\K.drop (i+1)=r/\(∀y,isM L i y=false)/\i<L.length/\(kAt L i=1↔k=2):=by
  intro q hq hn h
  obtain⟨hi,a1,a2,a3,a4⟩:=tk_at hK h
  refine⟨?_,a4,fun y=>by rw[isM_at hK h,decide_eq_false (by omega),Bool.false_and],hi,?_⟩
  ·unfold termP tokT
   rw[dif_pos hi,a1,a2,hn]
   rcases hq with⟨rfl,rfl⟩|⟨rfl,rfl⟩
   ·rw[if_pos rfl]
   ·rw[if_neg (by simp),if_pos rfl]
  ·rw[(kAt_at hK h).1]
   omega
 split at ht
 ·rename_i h2
  simp only[Bool.and_eq_true,decide_eq_true_eq]at ht
  exact gen (k - 1) (.inl ⟨by omega,h2⟩) ht.1 h
 split at ht
 ·rename_i h2
  simp only[Bool.and_eq_true,decide_eq_true_eq]at ht
  exact gen (k - 1) (.inr ⟨by omega,h2⟩) ht.1 h
 ·cases ht
theorem args_at:∀(l:List Term){i:Nat}{acc:List Term}{r:List TK},l.all termOk=true->K.drop i=tks (argsPc l false)++r->∃j,argsLp L i acc=.ok (acc++l,j)/\isM L j bClose=true/\K.drop (j+1)=r
 |[],i,acc,r,_,h=>by
  have h:K.drop i=(4,⟨⟨[41]⟩⟩,0)::r:=h
  refine⟨i,?_,?_,(tk_at hK h).2.2.2.2⟩
  ·rw[argsLp_no (by rw[isM_at hK h,eqBA_ne (by simp),Bool.and_false]),List.append_nil]
  ·rw[isM_at hK h,eqBA_self];rfl
 |t::l,i,acc,r,ha,h=>by
  simp only[List.all_cons,Bool.and_eq_true]at ha
  have h:K.drop i=(4,⟨⟨[44]⟩⟩,0)::((termPc t).tk++(tks (argsPc l false)++r)):=by
   rw[h,<-List.append_assoc]
   rfl
  obtain⟨_,_,_,_,h2⟩:=tk_at hK h
  obtain⟨g1,g2,_,_,_⟩:=term_at hK ha.1 h2
  obtain⟨j,g3,g4,g5⟩:=args_at l (acc:=acc++[t]) ha.2 g2
  refine⟨j,?_,g4,g5⟩
  rw[argsLp_go (by rw[isM_at hK h,eqBA_self];rfl) g1]
  rw[g3]
  simp
theorem atom_at{a:Atom}{i:Nat}{r:List TK}(ha:atomOk a=true)(h:K.drop i=tks (atomPc a)++r)(hr:∀x n r',r≠(4,x,n)::r'\/eqBA x bOpen=false):
  ∃j,atomP L i=.ok (a,j)/\K.drop j=r/\i<j/\kAt L i=1/\(∀y,isM L i y=false):=by
 obtain⟨p,l⟩:=a
 unfold atomOk at ha
 simp only[Bool.and_eq_true,decide_eq_true_eq]at ha
 have h:K.drop i=(1,p,0)::(tks (argsPc l true)++r):=h
 obtain⟨_,_,_,_,h2⟩:=tk_at hK h
 obtain⟨k1,k2,k3⟩:=kAt_at hK h
 have hM:∀y,isM L i y=false:=fun y=>by rw[isM_at hK h];rfl
 suffices hj:∃j,atomP L i=.ok (⟨p,l⟩,j)/\K.drop j=r by
  obtain⟨j,e,hd⟩:=hj
  exact⟨j,e,hd,((atomP_le (Nat.le_of_lt k3)).1 _ _ e).1,k1,hM⟩
 unfold atomP
 rw[if_neg (by rw[k1];simp)]
 cases l with
 |nil=>
  have h2:K.drop (i+1)=r:=h2
  have ho:isM L (i+1) bOpen=false:=by
   cases hrr:r with
   |nil=>rw[hrr]at h2;exact isM_end hK h2 _
   |cons t r'=>
    obtain⟨k,x,n⟩:=t
    rw[hrr]at h2
    rw[isM_at hK h2]
    by_cases h4:k=4
    ·subst h4
     rcases hr x n r' with hh|hh
     ·exact absurd hrr hh
     ·rw[hh,Bool.and_false]
    ·rw[decide_eq_false h4,Bool.false_and]
  rw[if_neg (by rw[ho];simp),k2]
  exact⟨i+1,rfl,h2⟩
 |cons t l=>
  have hall:=ha.2.2
  simp only[List.all_cons,Bool.and_eq_true]at hall
  have h2:K.drop (i+1)=(4,⟨⟨[40]⟩⟩,0)::((termPc t).tk++(tks (argsPc l false)++r)):=by
   rw[h2,<-List.append_assoc]
   rfl
  obtain⟨_,_,_,_,h3⟩:=tk_at hK h2
  obtain⟨g1,g2,_,_,_⟩:=term_at hK hall.1 h3
  obtain⟨j,g3,g4,g5⟩:=args_at hK l (acc:=[t]) hall.2 g2
  rw[if_pos (by rw[isM_at hK h2,eqBA_self];rfl),g1]
  simp only
  rw[g3]
  simp only
  rw[if_pos g4,k2]
  exact⟨j+1,rfl,g5⟩
end
end Go.Abs.Tz
namespace Go.Abs.Tz
open Go Go.Abs Go.Proofs
theorem zeroT_eq{t:Term}(h:zeroT t=true):t=term0:=by
 obtain⟨k,n,x⟩:=t
 unfold zeroT at h
 simp only[Bool.and_eq_true,decide_eq_true_eq]at h
 obtain⟨h1,h2,h3⟩:=h
 rw[h1,h2,eqBA_iff.1 h3]
def Sep(r:List TK):Prop:=∃x r',r=(4,x,0)::r'/\(x=bComma\/x=bDot)
theorem Sep.noOpen{r:List TK}(h:Sep r):∀x n r',r≠(4,x,n)::r'\/eqBA x bOpen=false:=by
 obtain⟨x,r',rfl,hx⟩:=h
 intro y n r''
 by_cases he:x=y
 ·subst he
  refine .inr ?_
  rcases hx with rfl|rfl
  ·exact eqBA_ne (by simp)
  ·exact eqBA_ne (by simp)
 ·exact .inl fun h=>by injection h with h _;injection h with _ h;injection h with h _;exact he h
theorem no_op{x:ByteArray}(h:x=bComma\/x=bDot\/x=bOpen):∀y∈opsB,eqBA x y=false:=by
 intro y hy
 simp only[List.mem_cons,List.not_mem_nil,or_false]at hy
 rcases h with rfl|rfl|rfl<;>rcases hy with rfl|rfl|rfl|rfl|rfl|rfl<;>exact eqBA_ne (by simp)
theorem mkOp_opX{k:Int}(hk:k=3\/k=4\/k=5\/k=6)(a b:Term):mkOp ⟨⟨opX k⟩⟩ a b=⟨k,atom0,a,b⟩:=by
 unfold mkOp
 rcases hk with rfl|rfl|rfl|rfl
 ·rw[show opX 3=[61] from rfl,if_pos (eqBA_self _)]
 ·rw[show opX 4=[33,61] from rfl,if_neg (by rw[eqBA_ne (by simp)];simp),if_pos (eqBA_self _)]
 ·rw[show opX 5=[60] from rfl,if_neg (by rw[eqBA_ne (by simp)];simp),if_neg (by rw[eqBA_ne (by simp)];simp),if_pos (eqBA_self _)]
 ·rw[show opX 6=[60,61] from rfl,if_neg (by rw[eqBA_ne (by simp)];simp),if_neg (by rw[eqBA_ne (by simp)];simp),if_neg (by rw[eqBA_ne (by simp)];simp),if_pos (eqBA_self _)]
theorem opX_mem{k:Int}(hk:k=3\/k=4\/k=5\/k=6):(⟨⟨opX k⟩⟩:ByteArray)∈opsB:=by
 rcases hk with rfl|rfl|rfl|rfl
 ·exact List.mem_cons_self
 ·exact List.mem_cons_of_mem _ List.mem_cons_self
 ·exact List.mem_cons_of_mem _ (List.mem_cons_of_mem _ List.mem_cons_self)
 ·exact List.mem_cons_of_mem _ (List.mem_cons_of_mem _ (List.mem_cons_of_mem _ List.mem_cons_self))
section
variable{L:List Tok}{K:List TK}(hK:L.map stripT=K)
include hK
theorem anyM_no{i:Nat}{x:ByteArray}{n:Int}{r:List TK}(h:K.drop i=(4,x,n)::r)(hx:x=bComma\/x=bDot\/x=bOpen):anyM L i opsB=false:=by
 unfold anyM
 rw[List.any_eq_false]
 intro y hy
 rw[isM_at hK h,no_op hx y hy,Bool.and_false]
 simp
theorem lit_at{x:Lit}{i:Nat}{r:List TK}(hx:litOk x=true)(h:K.drop i=tks (litPc x)++r)(hr:Sep r):∃j,litP L i=.ok (x,j)/\K.drop j=r:=by
 obtain⟨k,a,ta,tb⟩:=x
 unfold litPc at h
 dsimp only at h
 by_cases h1:k=1
 ·rw[if_pos h1]at h
  have ho:=hx
  unfold litOk at ho
  dsimp only at ho
  rw[if_pos (.inl h1)]at ho
  simp only[Bool.and_eq_true]at ho
  obtain⟨j,e1,e2,e3,e4,e5⟩:=atom_at hK ho.1 h hr.noOpen
  obtain⟨_,_,_,_,h2⟩:=tk_at hK (show K.drop i=(1,a.pred,0)::(tks (argsPc a.args true)++r) from h)
  have hany:anyM L (i+1) opsB=false:=by
   cases hl:a.args with
   |nil=>
    rw[hl]at h2
    obtain⟨y,r',rfl,hy⟩:=hr
    exact anyM_no hK (show K.drop (i+1)=(4,y,0)::r' from h2) (hy.imp (fun h=>h) .inl)
   |cons t l=>
    rw[hl]at h2
    exact anyM_no hK (show K.drop (i+1)=(4,bOpen,0)::(tks (termPc t::argsPc l false)++r) from h2) (.inr (.inr rfl))
  refine⟨j,?_,e2⟩
  unfold litP
  rw[if_neg (by rw[e5];simp),if_pos ⟨e4,hany⟩,e1,zeroT_eq ho.2.1,zeroT_eq ho.2.2,h1]
  rfl
 rw[if_neg h1]at h
 by_cases h2:k=2
 ·rw[if_pos h2]at h
  have ho:=hx
  unfold litOk at ho
  dsimp only at ho
  rw[if_pos (.inr h2)]at ho
  simp only[Bool.and_eq_true]at ho
  have h:K.drop i=(4,bNot,0)::(tks (atomPc a)++r):=h
  obtain⟨_,_,_,_,h3⟩:=tk_at hK h
  obtain⟨j,e1,e2,e3,e4,e5⟩:=atom_at hK ho.1 h3 hr.noOpen
  refine⟨j,?_,e2⟩
  unfold litP
  rw[if_pos (by rw[isM_at hK h,eqBA_self];rfl),e1,zeroT_eq ho.2.1,zeroT_eq ho.2.2,h2]
  rfl
 rw[if_neg h2]at h
 have ho:=hx
 unfold litOk at ho
 dsimp only at ho
 rw[if_neg (fun hh=>hh.elim h1 h2)]at ho
 split at ho
 ·rename_i hk
  simp only[Bool.and_eq_true,decide_eq_true_eq]at ho
  obtain⟨o1,o2,o3,o4⟩:=ho
  have ha0:a=atom0:=by
   obtain⟨p,l⟩:=a
   dsimp only at o3 o4
   rw[eqBA_iff.1 o3,List.eq_nil_of_length_eq_zero o4]
  have h:K.drop i=(termPc ta).tk++((4,⟨⟨opX k⟩⟩,0)::((termPc tb).tk++r)):=by
   rw[h]
   simp[tks,Pc.tk]
  obtain⟨e1,e2,e3,e4,e5⟩:=term_at hK o1 h
  obtain⟨_,_,_,_,e6⟩:=tk_at hK e2
  obtain⟨f1,f2,_,_,_⟩:=term_at hK o2 e6
  have hany:anyM L (i+1) opsB=true:=List.any_eq_true.2 ⟨_,opX_mem hk,by rw[isM_at hK e2,eqBA_self];rfl⟩
  refine⟨i+1+1+1,?_,f2⟩
  unfold litP
  rw[if_neg (by rw[e3];simp),if_neg (by rw[hany];simp),e1]
  simp only
  unfold opP
  rw[if_pos hany,f1]
  simp only
  rw[(kAt_at hK e2).2.1,mkOp_opX hk,ha0]
 ·cases ho
theorem lits_at:∀(l:List Lit){i:Nat}{acc:List Lit}{r:List TK},(∀x∈l,litOk x=true)->K.drop i=tks (bodyPc l false)++(4,bDot,0)::r->∃j,litsLp L i acc=.ok (acc++l,j)/\K.drop j=(4,bDot,0)::r
 |[],i,acc,r,_,h=>by
  have h:K.drop i=(4,bDot,0)::r:=h
  exact⟨i,by rw[litsLp_no (by rw[isM_at hK h,eqBA_ne (by simp),Bool.and_false]),List.append_nil],h⟩
 |x::l,i,acc,r,hl,h=>by
  have h:K.drop i=(4,bComma,0)::(tks (litPc x)++(tks (bodyPc l false)++(4,bDot,0)::r)):=by
   rw[h]
   simp[bodyPc,tks,tks_app,Pc.tk]
  obtain⟨_,_,_,_,h2⟩:=tk_at hK h
  have hs:Sep (tks (bodyPc l false)++(4,bDot,0)::r):=by
   cases l with
   |nil=>exact⟨_,_,rfl,.inr rfl⟩
   |cons y l=>exact⟨bComma,tks (litPc y++bodyPc l false)++(4,bDot,0)::r,by simp[bodyPc,tks,tks_app,Pc.tk],.inl rfl⟩
  obtain⟨j,e1,e2⟩:=lit_at hK (hl x List.mem_cons_self) h2 hs
  obtain⟨j2,e3,e4⟩:=lits_at l (acc:=acc++[x]) (fun y hy=>hl y (List.mem_cons_of_mem _ hy)) e2
  refine⟨j2,?_,e4⟩
  rw[litsLp_go (by rw[isM_at hK h,eqBA_self];rfl) e1,e3]
  simp
theorem fin_at{a:Atom}{b:List Lit}{i:Nat}{r:List TK}(h:K.drop i=(4,bDot,0)::r):finP L a b i=.ok (⟨a,b⟩,i+1)/\K.drop (i+1)=r:=by
 obtain⟨_,_,_,_,h2⟩:=tk_at hK h
 unfold finP
 rw[if_pos (by rw[isM_at hK h,eqBA_self];rfl)]
 exact⟨rfl,h2⟩
theorem clause_at{c:Clause}{i:Nat}{r:List TK}(hc:clauseOk c=true)(h:K.drop i=tks (clausePc c)++r):∃j,clauseP L i=.ok (c,j)/\K.drop j=r/\i<L.length:=by
 obtain⟨a,b⟩:=c
 obtain⟨h1,_,h3⟩:=clause_parts hc
 dsimp only at h1 h3
 cases b with
 |nil=>
  have h:K.drop i=tks (atomPc a)++(4,bDot,0)::r:=by
   rw[h]
   simp[clausePc,bodyPc,tks,tks_app,Pc.tk]
  obtain⟨j,e1,e2,e3,e4,e5⟩:=atom_at hK h1 h (Sep.noOpen ⟨_,_,rfl,.inr rfl⟩)
  obtain⟨f1,f2⟩:=fin_at hK (a:=a) (b:=[]) e2
  refine⟨j+1,?_,f2,(kAt_at hK (show K.drop i=(1,a.pred,0)::(tks (argsPc a.args true)++(4,bDot,0)::r) from h)).2.2⟩
  unfold clauseP
  rw[e1]
  simp only
  rw[if_neg (by rw[isM_at hK e2,eqBA_ne (by simp),Bool.and_false];simp),f1]
 |cons x l=>
  have h:K.drop i=tks (atomPc a)++(4,bIf,0)::(tks (litPc x)++(tks (bodyPc l false)++(4,bDot,0)::r)):=by
   rw[h]
   simp[clausePc,bodyPc,tks,tks_app,Pc.tk]
  obtain⟨j,e1,e2,e3,e4,e5⟩:=atom_at hK h1 h (fun y n r'=>by
   by_cases he:bIf=y
   ·subst he
    exact .inr (eqBA_ne (by simp))
   ·exact .inl fun h=>by injection h with h _;injection h with _ h;injection h with h _;exact he h)
  obtain⟨_,_,_,_,g2⟩:=tk_at hK e2
  have hs:Sep (tks (bodyPc l false)++(4,bDot,0)::r):=by
   cases l with
   |nil=>exact⟨_,_,rfl,.inr rfl⟩
   |cons y l=>exact⟨bComma,tks (litPc y++bodyPc l false)++(4,bDot,0)::r,by simp[bodyPc,tks,tks_app,Pc.tk],.inl rfl⟩
  obtain⟨j2,q1,q2⟩:=lit_at hK (h3 x List.mem_cons_self) g2 hs
  obtain⟨j3,q3,q4⟩:=lits_at hK l (acc:=[x]) (fun y hy=>h3 y (List.mem_cons_of_mem _ hy)) q2
  obtain⟨f1,f2⟩:=fin_at hK (a:=a) (b:=x::l) q4
  refine⟨j3+1,?_,f2,(kAt_at hK (show K.drop i=(1,a.pred,0)::(tks (argsPc a.args true)++_) from h)).2.2⟩
  unfold clauseP
  rw[e1]
  simp only
  rw[if_pos (by rw[isM_at hK e2,eqBA_self];rfl)]
  unfold bodyP
  rw[q1]
  simp only
  rw[q3]
  exact f1
theorem clauses_at:∀(l:List Clause){i k:Nat}{acc:List Clause},(∀c∈l,clauseOk c=true)->K.drop i=tks (clausesPc l)->l.length<k->parseF L k i acc=.ok (acc++l)
 |[],i,k,acc,_,h,hk=>by
  obtain⟨k,rfl⟩:∃q,k=q+1:=⟨k - 1,by simp at hk;omega⟩
  have hlen:L.length=K.length:=by rw[<-hK,List.length_map]
  have:=List.drop_eq_nil_iff.1 (show K.drop i=[] from h)
  rw[parseF_end (by omega),List.append_nil]
 |c::l,i,k,acc,hl,h,hk=>by
  obtain⟨k,rfl⟩:∃q,k=q+1:=⟨k - 1,by simp at hk;omega⟩
  obtain⟨j,e1,e2,e3⟩:=clause_at hK (hl c List.mem_cons_self) (r:=tks (clausesPc l)) (by rw[h];simp[clausesPc,tks_app])
  rw[parseF_go e3 e1,clauses_at l (acc:=acc++[c]) (fun d hd=>hl d (List.mem_cons_of_mem _ hd)) e2 (by simp at hk;omega)]
  simp
end
theorem formed_small{c:Clause}(h:clauseOk c=true):clBig c=false:=by
 obtain⟨h1,h2,h3⟩:=clause_parts h
 unfold atomOk at h1
 simp only[Bool.and_eq_true,decide_eq_true_eq]at h1
 unfold clBig
 rw[decide_eq_false (by omega),decide_eq_false (by omega),Bool.or_false,Bool.false_or,List.any_eq_false]
 intro x hx
 have:=lit_args (h3 x hx)
 unfold litBig
 rw[decide_eq_false (by omega)]
 simp
theorem tks_len:∀l:List Clause,l.length<=(tks (clausesPc l)).length
 |[]=>Nat.le_refl _
 |c::l=>by
  have ih:=tks_len l
  have:tks (clausesPc (c::l))=(1,c.head.pred,0)::(tks (argsPc c.head.args true++bodyPc c.body true++[Pc.mk [46],Pc.sk 10])++tks (clausesPc l)):=by
   simp[clausesPc,clausePc,atomPc,tks,tks_app,Pc.tk]
  rw[this,List.length_cons,List.length_cons,List.length_append]
  omega
theorem readC_print{l:List Clause}(hl:l.length<=40)(h:∀c∈l,clauseOk c=true):printB l=(flat (clausesPc l),0)/\((flat (clausesPc l)).length<=6000->readC ⟨⟨flat (clausesPc l)⟩⟩=.ok l):=by
 refine⟨?_,fun hs=>?_⟩
 ·unfold printB
  rw[if_neg (by omega),printF_pc [] h,List.nil_append]
 ·obtain⟨L,h1,h2⟩:=lex_text (clausesPc_ok h)
  have hlen:L.length=(tks (clausesPc l)).length:=by rw[<-h2,List.length_map]
  have hp:=clauses_at h2 l (i:=0) (k:=L.length+1) (acc:=[]) h rfl (by have:=tks_len l;omega)
  rw[List.nil_append]at hp
  rw[readC_ok (by rw[ba_size];exact hs) h1 hp,if_neg]
  simp only[Bool.or_eq_true,decide_eq_true_eq,not_or]
  refine⟨?_,by omega⟩
  rw[List.any_eq_true]
  rintro⟨c,hc,hb⟩
  rw[formed_small (h c hc)]at hb
  cases hb
theorem readA_print{a:Atom}(h:atomOk a=true):readA (atomX a)=.ok a:=by
 have he:atomX a=⟨⟨flat (atomPc a)⟩⟩:=by rw[atomPc_flat]
 rw[he]
 have hg:GoodR [] (atomPc a):=atomPc_ok h fun d r' e=>by cases e
 obtain⟨L,h1,h2⟩:=lex_text hg
 obtain⟨j,e1,e2,_,_,_⟩:=atom_at h2 (i:=0) (r:=[]) h (by simp) (fun x n r'=>.inl (by simp))
 have hlen:L.length=(tks (atomPc a)).length:=by rw[<-h2,List.length_map]
 have hj:=List.drop_eq_nil_iff.1 e2
 have ho:oneAtom L=.ok a:=by
  unfold oneAtom
  rw[e1]
  simp only
  rw[if_neg (by omega)]
 have hsz:(⟨⟨flat (atomPc a)⟩⟩:ByteArray).size<=6000:=by
  have:=atomX_len h
  rw[he]at this
  omega
 have h3:a.args.length<=3:=by
  unfold atomOk at h
  simp only[Bool.and_eq_true,decide_eq_true_eq]at h
  exact h.2.1
 rw[readA_ok hsz h1 ho,if_neg (by omega)]
end Go.Abs.Tz
namespace Go.Abs.Tz
open Go Go.Abs Go.Proofs
set_option maxRecDepth 20000
set_option linter.unusedSimpArgs false
attribute [local simp ↓] getP_nil getP_node setP_nil setP_node oneP_eq vP_map vP_some vP_none vP_bind eP_some bP_true bP_false gP_yes gP_tf gP_ft gP_tup runP_skip runP_ops runP_drw runP_seq runP_cond runP_blk runP_loop runP_exit runP_ret seqK_n seqK_r seqK_e seqK_p blkK_n blkK_r blkK_e blkK_p loopK_n loopK_r loopK_e loopK_p finK_n finK_r finK_p resP_one resP_two resP_three resP_nil resP_c nxP_nil argsP_nil argsP_cons evP_t evP_c evP_g evsP_nil evsP_cons clP_fn clP_yld clfP_fn pnP_i opsP_nil opsP_d opsP_x opsP_gt opsP_gf opP_cf opP_cl opP_pn opP_nx valP_mv valP_pk valP_eq valP_bn valP_nt valP_ld valP_fa valP_fd valP_ia valP_ix valP_ln valP_srn valP_srl valP_srh valP_srb valP_cv valP_mi valP_mf valP_xt valP_bs valP_bd valP_nc valP_mn valP_lk valP_ta opP_mv opP_pk opP_eq opP_bn opP_nt opP_ld opP_fa opP_fd opP_ia opP_ix opP_ln opP_sr opP_cv opP_mi opP_mf opP_xt opP_bs opP_bd opP_nc opP_mn opP_lk opP_ta opP_al opP_bx opP_st opP_ap opP_mk opP_nb opP_mu opP_rg opP_en pendP_nil pendP_d pendP_g drwP_nil drwP_d drwP_x drwP_gt drwP_gf look_self natOf_nat
attribute [local simp] faL fdL iaL ixL loadL partL lenL eqK eqL natOf eqB_s eqB_i eqB_b bn_add bn_sub bn_lss bn_leq bn_gtr bn_geq bn_adds bn_lsss bn_gtrs bn_leqs bn_geqs sliceL LV.cells LV.whole look_self put_self putO_self put_eq stL fillL termC dopP LHeap.alloc oneI oneS oneB nth0 nth1 nth2 nth3 nth4 nth5 nth6 nth7 nth8 nth9 look_ne putO_ne
def foundS(A:List Strat)(a:Atom):Prop:=0<=findSt A (ofA a) 0
instance (A:List Strat) (a:Atom):Decidable (foundS A a):=by unfold foundS;infer_instance
inductive RepO (H:LHeap) (A:List Strat):LV->List (Nat×LObj)->Nat->Prop
 |sl (own:Own) (n:Nat):H.next<=n->RepO H A (.sl (A.map stratL) own) H.objs n
 |asl (o n:Nat):H.next<=o->o<n->RepO H A (.asl o 0 A.length) ((o,arrS A)::H.objs) n
inductive RepS (H:LHeap):List Strat->LV->List (Nat×LObj)->Nat->Prop
 |nil (n:Nat):H.next<=n->RepS H [] Nl H.objs n
 |asl (A:List Strat) (o n:Nat):H.next<=o->o<n->RepS H A (.asl o 0 A.length) ((o,arrS A)::H.objs) n
theorem del_base{H:LHeap}(hH:H.Ok){o:Nat}(ho:H.next<=o):delO o H.objs=H.objs:=by
 have go:∀(l:List (Nat×LObj))(n:Nat),Desc l n->n<=o->delO o l=l:=by
  intro l
  induction l with
  |nil=>intro n _ _;rfl
  |cons e l ih=>
   obtain⟨i,x⟩:=e
   intro n hd hn
   have h1:i<n:=hd.1
   simp only[delO]
   rw[if_neg (by omega),ih i hd.2 (by omega)]
 exact go _ _ hH ho
structure NNP2 where
 i:Nat
 n:Nat
 a:List Strat
 v:LV
 ob:List (Nat×LObj)
theorem put_under{a b:Nat}{x y z:LObj}{r:List (Nat×LObj)}{m:Nat}(h:¬b=a):LHeap.put ⟨(a,x)::(b,y)::r,m⟩ b z=⟨(a,x)::(b,z)::r,m⟩:=by
 simp[LHeap.put,putO,h]
theorem put_top{b:Nat}{y z:LObj}{r:List (Nat×LObj)}{m:Nat}:LHeap.put ⟨(b,y)::r,m⟩ b z=⟨(b,z)::r,m⟩:=by
 simp[LHeap.put,putO]
theorem ba_data(l:List UInt8):(⟨⟨l⟩⟩:ByteArray).data.toList=l:=rfl
theorem t_Print(l:List Clause)(hl:l.length<=40->∀c∈l,Clause.ok3 c):PureT 14 [clausesL l] (.tup [.str ⟨⟨(printB l).1⟩⟩,.int (printB l).2]):=by
 refine PureT.of c14 fun H hH=>⟨Nat.le_of_ble_eq_true rfl,?_⟩
 by_cases h1:(40:Int)<(l.length:Int)
 ·simp(disch:=omega)[b14,h1]
  exact doneK hH (by simp[printB,show 40<l.length by omega])
 have hc:=hl (by omega)
 have hl40:l.length<=40:=by omega
 simp(disch:=omega)[b14,h1]
 obtain⟨R,hR⟩:∃R,printF l []=R:=⟨_,rfl⟩
 have hB:printB l=R:=by rw[<-hR];unfold printB;rw[if_neg (by omega)]
 rw[hB]
 have hOk:∀(s:List UInt8)(n:Nat),H.next<n->LHeap.Ok ⟨(H.next,.bld 97 5 s)::H.objs,n⟩:=fun s n hn=>⟨hn,hH⟩
 refine lP_enter (σ:=NNZ) (fun q=>(.nd (clausesL l) (.nd .bot (.nd (.int 0) .nil .nil) (.nd .bot .nil (.nd (.int l.length) .nil .nil))) (.nd (.str ⟨⟨[]⟩⟩) (.nd (.ptr H.next 0) .nil (.nd (clausesL l) .nil .nil)) (.nd .bot .nil (.nd (.int q.i) .nil .nil))))) (fun q=>⟨(H.next,.bld 97 5 q.s)::H.objs,q.n⟩) (fun q=>l.length - q.i)
  (fun q=>H.next<q.n/\q.i<=l.length/\q.s.length<=732*q.i/\(q.s=[]->q.i=0)/\printF (l.drop q.i) q.s=R) ⟨0,H.next+1,[]⟩ ⟨Nat.lt_succ_self _,Nat.zero_le _,Nat.le_refl _,fun _=>rfl,hR⟩ (by simp[FT.Le,Wk]) ⟨HWk.refl _,fun h=>h⟩ ?_
 rintro⟨i,n,s⟩ ⟨hn,hi,hs,hz,he⟩ hok
 dsimp only at hn hi hs hz he hok
 by_cases hlt:i<l.length
 case neg=>
  obtain rfl:i=l.length:=by omega
  rw[List.drop_eq_nil_of_le (Nat.le_refl _)]at he
  simp only[printF]at he
  simp(disch:=omega)
  by_cases hs0:s=[]
  ·subst hs0
   refine t_read0 (by simp[look]) ?_
   simp(disch:=omega)
   exact doneK hH (by simp[<-he])
  ·refine t_read (l:=s) (by simp[look]) hs0 (by omega) ?_
   have hdel:LHeap.del ⟨(H.next,.bld 97 5 s)::H.objs,n⟩ H.next=⟨H.objs,n⟩:=by simp[LHeap.del,delO,del_base hH (Nat.le_refl _)]
   rw[hdel]
   simp(disch:=omega)
   exact doneK hH (by simp[<-he])
 rw[List.drop_eq_getElem_cons hlt]at he
 have hcm:=mem_at hlt
 have hbk:∀(x:LObj)(s':List UInt8)(n':Nat),n+1<=n'->HWk ⟨(n,x)::(H.next,.bld 97 5 s')::H.objs,n'⟩ ⟨(H.next,.bld 97 5 s')::H.objs,n'⟩/\(LHeap.Ok ⟨(n,x)::(H.next,.bld 97 5 s')::H.objs,n'⟩->LHeap.Ok ⟨(H.next,.bld 97 5 s')::H.objs,n'⟩):=fun x s' n' hn'=>
  back (hOk s' n hn) (HExt.cons (hOk s' n hn) (Nat.le_refl _) (HExt.refl (Nat.le_refl _)) (by dsimp only;omega))
 simp(disch:=omega)[hlt]
 refine(t_formed l[i] (hc _ hcm).1).go fun n1 h1'=>?_
 cases hf:clauseOk l[i]
 ·simp only[printF,hf,if_true]at he
  simp(disch:=omega)
  exact doneK hH (by simp[<-he])
 simp only[printF,hf,Bool.true_eq_false,if_false]at he
 obtain⟨p1,p2,p3⟩:=clause_parts hf
 have hCl:=clauseX_len hf
 obtain⟨A8,hAd⟩:∃A8,(atomX l[i].head).data.toList=A8:=⟨_,rfl⟩
 have hA:atomX l[i].head=⟨⟨A8⟩⟩:=by rw[<-hAd]
 have hAl:A8.length<=110:=by rw[<-hAd];exact atomX_len p1
 obtain⟨Q,hQ⟩:∃Q,s++A8++bodyX l[i].body true=Q:=⟨_,rfl⟩
 have hCQ:s++clauseX l[i]=Q++[46,10]:=by rw[<-hQ];unfold clauseX;rw[hAd];simp
 have hQl:Q.length+2=s.length+(clauseX l[i]).length:=by
  have:=congrArg List.length hCQ
  simp only[List.length_append,List.length_cons,List.length_nil]at this
  omega
 rw[hCQ]at he
 simp(disch:=omega)[hlt]
 refine(t_show _ p1).go fun n2 h2'=>?_
 rw[hA]
 simp(disch:=omega)
 refine t_write (l:=s) ⟨⟨A8⟩⟩ (by rw[look_ne (by omega)];simp[look]) (by rw[ba_size];omega) ?_
 have hnH:¬H.next=n:=by omega
 rw[put_under hnH,ba_data]
 simp(disch:=omega)
 refine lP_enter (σ:=NNZ) (fun q=>(.nd (clausesL l) (.nd .bot (.nd (.int 0) .nil (.nd .bot .nil (.nd (.int l[i].body.length) .nil .nil))) (.nd .bot .nil (.nd (.int l.length) .nil .nil))) (.nd (.str ⟨⟨[]⟩⟩) (.nd (.ptr H.next 0) .nil (.nd (clausesL l) .nil (.nd (.int q.i) .nil .nil))) (.nd .bot (.nd .bot .nil (.nd (bodyL l[i].body) .nil .nil)) (.nd (.int i) .nil .nil))))) (fun q=>⟨(H.next,.bld 97 5 q.s)::H.objs,q.n⟩) (fun q=>l[i].body.length - q.i)
  (fun q=>H.next<q.n/\q.i<=l[i].body.length/\q.s++bodyX (l[i].body.drop q.i) (decide (q.i=0))=Q) ⟨0,n2,s++A8⟩ ⟨by dsimp only;omega,Nat.zero_le _,hQ⟩ (by simp[FT.Le,Wk]) (hbk _ _ _ (by omega)) ?_
 rintro⟨j,n3,s3⟩ ⟨hn3,hj,he3⟩ hok3
 dsimp only at hn3 hj he3 hok3
 have hs3:s3.length<=Q.length:=by
  have:=congrArg List.length he3
  rw[List.length_append]at this
  omega
 by_cases hlt3:j<l[i].body.length
 case neg=>
  rw[List.drop_eq_nil_of_le (by omega)]at he3
  simp only[bodyX,List.append_nil]at he3
  subst he3
  simp(disch:=omega)[hlt,hlt3]
  refine t_write (l:=s3) ⟨⟨[46,10]⟩⟩ (by simp[look]) (by rw[ba_size];simp only[List.length_cons,List.length_nil];omega) ?_
  rw[put_top,ba_data]
  simp(disch:=omega)[wrap_nat (show i<2^62 by omega)]
  exact⟨⟨i+1,n3,s3++[46,10]⟩,by dsimp only;omega,⟨hn3,by dsimp only;omega,by dsimp only;simp only[List.length_append,List.length_cons,List.length_nil];omega,by simp,he⟩,by simp[FT.Le,Wk],HWk.refl _,fun h=>h⟩
 rw[List.drop_eq_getElem_cons hlt3]at he3
 have hokx:=p3 _ (mem_at hlt3)
 obtain⟨B8,hBd⟩:∃B8,(litX l[i].body[j]).data.toList=B8:=⟨_,rfl⟩
 have hB8:litX l[i].body[j]=⟨⟨B8⟩⟩:=by rw[<-hBd]
 have hBl:B8.length<=120:=by rw[<-hBd];exact litX_len hokx
 have hbk3:∀(x:LObj)(s':List UInt8)(n':Nat),n3+1<=n'->HWk ⟨(n3,x)::(H.next,.bld 97 5 s')::H.objs,n'⟩ ⟨(H.next,.bld 97 5 s')::H.objs,n'⟩/\(LHeap.Ok ⟨(n3,x)::(H.next,.bld 97 5 s')::H.objs,n'⟩->LHeap.Ok ⟨(H.next,.bld 97 5 s')::H.objs,n'⟩):=fun x s' n' hn'=>
  back (hOk s' n3 hn3) (HExt.cons (hOk s' n3 hn3) (Nat.le_refl _) (HExt.refl (Nat.le_refl _)) (by dsimp only;omega))
 have hnH3:¬H.next=n3:=by omega
 by_cases h0:j=0
 ·subst h0
  have e1:bodyX (l[i].body[0]::l[i].body.drop (0+1)) (decide (0=0))=[32,105,102,32]++B8++bodyX (l[i].body.drop 1) false:=by simp[bodyX,<-hBd]
  rw[e1]at he3
  have he':(s3++[32,105,102,32]++B8)++bodyX (l[i].body.drop 1) (decide (1=0))=Q:=by simpa using he3
  simp(disch:=omega)[hlt,hlt3]
  refine t_write (l:=s3) ⟨⟨[32,105,102,32]⟩⟩ (by rw[look_ne (by omega)];simp[look]) (by rw[ba_size];simp only[List.length_cons,List.length_nil];omega) ?_
  rw[put_under hnH3,ba_data]
  simp(disch:=omega)
  refine(t_showLiteral _ hokx).go fun n4 hn4=>?_
  rw[hB8]
  simp(disch:=omega)
  refine t_write (l:=s3++[32,105,102,32]) ⟨⟨B8⟩⟩ (by rw[look_ne (by omega)];simp[look]) (by rw[ba_size];simp only[List.length_append,List.length_cons,List.length_nil];omega) ?_
  rw[put_under hnH3,ba_data]
  simp(disch:=omega)[wrap_id]
  exact⟨⟨1,n4,s3++[32,105,102,32]++B8⟩,by dsimp only;omega,⟨by dsimp only;omega,by dsimp only;omega,he'⟩,by simp[FT.Le,Wk],by simpa using hbk3 _ _ n4 (by omega)⟩
 ·have e1:bodyX (l[i].body[j]::l[i].body.drop (j+1)) (decide (j=0))=[44,32]++B8++bodyX (l[i].body.drop (j+1)) false:=by simp[bodyX,h0,<-hBd]
  rw[e1]at he3
  have he':(s3++[44,32]++B8)++bodyX (l[i].body.drop (j+1)) (decide (j+1=0))=Q:=by simpa using he3
  have h0':¬(j:Int)=0:=by omega
  have hmin:(if (1:Int)<(j:Int) then (1:Int) else (j:Int))=1:=by split<;>omega
  have hmin2:(if (1:Int)<(j:Int) then (1:Int) else (j:Int)).toNat=1:=by rw[hmin];rfl
  simp(disch:=omega)[hlt,hlt3,h0,h0',hmin,hmin2]
  refine t_write (l:=s3) ⟨⟨[44,32]⟩⟩ (by rw[look_ne (by omega)];simp[look]) (by rw[ba_size];simp only[List.length_cons,List.length_nil];omega) ?_
  rw[put_under hnH3,ba_data]
  simp(disch:=omega)
  refine(t_showLiteral _ hokx).go fun n4 hn4=>?_
  rw[hB8]
  simp(disch:=omega)
  refine t_write (l:=s3++[44,32]) ⟨⟨B8⟩⟩ (by rw[look_ne (by omega)];simp[look]) (by rw[ba_size];simp only[List.length_append,List.length_cons,List.length_nil];omega) ?_
  rw[put_under hnH3,ba_data]
  simp(disch:=omega)[wrap_nat (show j<2^62 by omega)]
  exact⟨⟨j+1,n4,s3++[44,32]++B8⟩,by dsimp only;omega,⟨by dsimp only;omega,by dsimp only;omega,he'⟩,by simp[FT.Le,Wk],by simpa using hbk3 _ _ n4 (by omega)⟩
theorem printF_bad:∀{l:List Clause}{acc:List UInt8},(∃c∈l,clauseOk c=false)->(printF l acc).2=7
 |[],_,h=>by obtain⟨c,hc,_⟩:=h;cases hc
 |c::l,acc,h=>by
  unfold printF
  cases hc:clauseOk c
  ·rw[if_pos rfl]
  ·rw[if_neg (by simp)]
   apply printF_bad
   obtain⟨d,hd,hb⟩:=h
   rcases List.mem_cons.1 hd with rfl|hd
   ·rw[hc]at hb;cases hb
   ·exact⟨d,hd,hb⟩
theorem printB_of(l:List Clause):(l.length<=40/\∀c∈l,clauseOk c=true)\/(printB l).2≠0:=by
 by_cases h40:40<l.length
 ·refine .inr ?_
  unfold printB
  rw[if_pos h40]
  decide
 ·by_cases h:∃c∈l,clauseOk c=false
  ·refine .inr ?_
   unfold printB
   rw[if_neg h40,printF_bad h]
   decide
  ·refine .inl ⟨by omega,fun c hc=>?_⟩
   cases hb:clauseOk c
   ·exact absurd ⟨c,hc,hb⟩ h
   ·rfl
theorem readC_err{s:ByteArray}{e x:Int}(h:readC s=.error (e,x)):e≠0:=by
 unfold readC at h
 split at h
 ·cases h;decide
 split at h
 ·cases h;decide
 split at h
 ·cases h;decide
 split at h
 ·cases h;decide
 ·cases h
set_option maxHeartbeats 4000000 in
theorem t_law4(hs:PureT 5 [] (.bool true))(l:List Clause)(a:Atom)(s:ByteArray)(hb:∀c∈l,c.body.length<2^63):PureT 4 [clausesL l,atomL a,.str s] (.bool true):=by
 refine PureT.of c4 fun H hH=>⟨Nat.le_of_ble_eq_true rfl,?_⟩
 simp(disch:=omega)[b4]
 refine(t_shortClauses 10 (by omega) l hb).go fun n1 hn1=>?_
 cases h1:shortB 10 l
 ·simp(disch:=omega)
  refine hs.go fun n2 hn2=>?_
  simp(disch:=omega)
  exact doneK hH (by simp[])
 simp(disch:=omega)
 refine(t_short a).go fun n2 hn2=>?_
 cases h2:a.small
 ·simp(disch:=omega)
  refine hs.go fun n3 hn3=>?_
  simp(disch:=omega)
  exact doneK hH (by simp[])
 by_cases h1000:1000<s.size
 ·have h1000':(1000:Int)<(s.size:Int):=by omega
  simp(disch:=omega)[h1000']
  refine hs.go fun n3 hn3=>?_
  simp(disch:=omega)
  exact doneK hH (by simp[])
 have h1000':¬(1000:Int)<(s.size:Int):=by omega
 have ha:=Atom.small_ok h2
 have hok:l.length<=40->∀c∈l,Clause.ok3 c:=by
  intro hl c hc
  unfold shortB at h1
  rw[if_neg (by omega)]at h1
  split at h1
  ·rename_i hall
   exact short_ok3 (List.all_eq_true.1 hall c hc)
  ·cases h1
 simp(disch:=omega)[h1000']
 refine(t_Print l hok).go fun n3 hn3=>?_
 have hA0:=t_PrintAtom a ha
 have hL0:=t_Parse ⟨⟨(printB l).1⟩⟩
 have hS0:=t_Parse s
 rcases printB_of l with⟨hl40,hlf⟩|hbad
 ·obtain⟨hp,hrd⟩:=readC_print hl40 hlf
  rw[hp]at hL0 ⊢
  obtain⟨u,hu⟩:∃u,flat (clausesPc l)=u:=⟨_,rfl⟩
  dsimp only at hL0 ⊢
  rw[hu]at hrd hL0 ⊢
  have hus:(⟨⟨u⟩⟩:ByteArray).size=u.length:=rfl
  by_cases hsz:u.length<=6000
  ·have hsz':(u.length:Int)<=6000:=by omega
   rw[hrd hsz]at hL0
   simp(disch:=omega)[hus,hsz']
   refine hL0.go fun n4 hn4=>?_
   simp(disch:=omega)[clausesV]
   refine(t_sameClauses l .no .no (clOk_of hl40 hlf)).go fun n5 hn5=>?_
   simp(disch:=omega)
   refine hA0.go fun n6 hn6=>?_
   cases hao:atomOk a
   case false=>
    have hpa:printA a=([],7):=by unfold printA;rw[if_pos hao]
    simp(disch:=omega)[hpa]
    refine hS0.go fun n8 hn8=>?_
    cases hrs:readC s with
    |error p=>
     obtain⟨e,x⟩:=p
     have he:=readC_err hrs
     simp(disch:=omega)[clausesV,he]
     refine hs.go fun n9 hn9=>?_
     simp(disch:=omega)
     exact doneK hH (by simp[])
    |ok m=>
     obtain⟨hm40,hmf⟩:=readC_formed hrs
     obtain⟨hmp,hmr⟩:=readC_print hm40 hmf
     have hM0:=t_Parse ⟨⟨flat (clausesPc m)⟩⟩
     have hPm:=t_Print m fun _ c hc=>clauseOk_ok3 (hmf c hc)
     rw[hmp]at hPm
     simp(disch:=omega)[clausesV]
     refine hPm.go fun n9 hn9=>?_
     obtain⟨w,hw⟩:∃w,flat (clausesPc m)=w:=⟨_,rfl⟩
     dsimp only
     rw[hw]at hmr hM0 ⊢
     have hws:(⟨⟨w⟩⟩:ByteArray).size=w.length:=rfl
     by_cases hwz:6000<w.length
     ·have hwz':(6000:Int)<(w.length:Int):=by omega
      simp(disch:=omega)[hws,hwz']
      refine hs.go fun n10 hn10=>?_
      simp(disch:=omega)
      exact doneK hH (by simp[])
     ·have hwz':¬(6000:Int)<(w.length:Int):=by omega
      rw[hmr (by omega)]at hM0
      simp(disch:=omega)[hws,hwz']
      refine hM0.go fun n10 hn10=>?_
      simp(disch:=omega)[clausesV]
      refine hs.go fun n11 hn11=>?_
      simp(disch:=omega)
      refine(t_sameClauses m .no .no (clOk_of hm40 hmf)).go fun n12 hn12=>?_
      simp(disch:=omega)
      exact doneK hH (by simp[])
   case true=>
    have hpa:printA a=((atomX a).data.toList,0):=by unfold printA;rw[if_neg (by rw[hao];simp)]
    have hB0:=t_ParseAtom (atomX a)
    rw[readA_print hao]at hB0
    have hB0:PureT 8 [.str (atomX a)] (.tup [atomL a,.int 0,.int 0]):=hB0
    have hax:(⟨⟨(atomX a).data.toList⟩⟩:ByteArray)=atomX a:=rfl
    rw[hpa]
    dsimp only
    rw[hax]
    simp(disch:=omega)
    refine hB0.go fun n7 hn7=>?_
    simp(disch:=omega)
    refine(t_rSame a a ha ha).go fun n75 hn75=>?_
    rw[cmpA_self]
    simp(disch:=omega)
    refine hS0.go fun n8 hn8=>?_
    cases hrs:readC s with
    |error p=>
     obtain⟨e,x⟩:=p
     have he:=readC_err hrs
     simp(disch:=omega)[clausesV,he]
     refine hs.go fun n9 hn9=>?_
     simp(disch:=omega)
     exact doneK hH (by simp[])
    |ok m=>
     obtain⟨hm40,hmf⟩:=readC_formed hrs
     obtain⟨hmp,hmr⟩:=readC_print hm40 hmf
     have hM0:=t_Parse ⟨⟨flat (clausesPc m)⟩⟩
     have hPm:=t_Print m fun _ c hc=>clauseOk_ok3 (hmf c hc)
     rw[hmp]at hPm
     simp(disch:=omega)[clausesV]
     refine hPm.go fun n9 hn9=>?_
     obtain⟨w,hw⟩:∃w,flat (clausesPc m)=w:=⟨_,rfl⟩
     dsimp only
     rw[hw]at hmr hM0 ⊢
     have hws:(⟨⟨w⟩⟩:ByteArray).size=w.length:=rfl
     by_cases hwz:6000<w.length
     ·have hwz':(6000:Int)<(w.length:Int):=by omega
      simp(disch:=omega)[hws,hwz']
      refine hs.go fun n10 hn10=>?_
      simp(disch:=omega)
      exact doneK hH (by simp[])
     ·have hwz':¬(6000:Int)<(w.length:Int):=by omega
      rw[hmr (by omega)]at hM0
      simp(disch:=omega)[hws,hwz']
      refine hM0.go fun n10 hn10=>?_
      simp(disch:=omega)[clausesV]
      refine hs.go fun n11 hn11=>?_
      simp(disch:=omega)
      refine(t_sameClauses m .no .no (clOk_of hm40 hmf)).go fun n12 hn12=>?_
      simp(disch:=omega)
      exact doneK hH (by simp[])
  ·have hsz':¬(u.length:Int)<=6000:=by omega
   simp(disch:=omega)[hus,hsz']
   refine hA0.go fun n6 hn6=>?_
   cases hao:atomOk a
   case false=>
    have hpa:printA a=([],7):=by unfold printA;rw[if_pos hao]
    simp(disch:=omega)[hpa]
    refine hS0.go fun n8 hn8=>?_
    cases hrs:readC s with
    |error p=>
     obtain⟨e,x⟩:=p
     have he:=readC_err hrs
     simp(disch:=omega)[clausesV,he]
     refine hs.go fun n9 hn9=>?_
     simp(disch:=omega)
     exact doneK hH (by simp[])
    |ok m=>
     obtain⟨hm40,hmf⟩:=readC_formed hrs
     obtain⟨hmp,hmr⟩:=readC_print hm40 hmf
     have hM0:=t_Parse ⟨⟨flat (clausesPc m)⟩⟩
     have hPm:=t_Print m fun _ c hc=>clauseOk_ok3 (hmf c hc)
     rw[hmp]at hPm
     simp(disch:=omega)[clausesV]
     refine hPm.go fun n9 hn9=>?_
     obtain⟨w,hw⟩:∃w,flat (clausesPc m)=w:=⟨_,rfl⟩
     dsimp only
     rw[hw]at hmr hM0 ⊢
     have hws:(⟨⟨w⟩⟩:ByteArray).size=w.length:=rfl
     by_cases hwz:6000<w.length
     ·have hwz':(6000:Int)<(w.length:Int):=by omega
      simp(disch:=omega)[hws,hwz']
      refine hs.go fun n10 hn10=>?_
      simp(disch:=omega)
      exact doneK hH (by simp[])
     ·have hwz':¬(6000:Int)<(w.length:Int):=by omega
      rw[hmr (by omega)]at hM0
      simp(disch:=omega)[hws,hwz']
      refine hM0.go fun n10 hn10=>?_
      simp(disch:=omega)[clausesV]
      refine hs.go fun n11 hn11=>?_
      simp(disch:=omega)
      refine(t_sameClauses m .no .no (clOk_of hm40 hmf)).go fun n12 hn12=>?_
      simp(disch:=omega)
      exact doneK hH (by simp[])
   case true=>
    have hpa:printA a=((atomX a).data.toList,0):=by unfold printA;rw[if_neg (by rw[hao];simp)]
    have hB0:=t_ParseAtom (atomX a)
    rw[readA_print hao]at hB0
    have hB0:PureT 8 [.str (atomX a)] (.tup [atomL a,.int 0,.int 0]):=hB0
    have hax:(⟨⟨(atomX a).data.toList⟩⟩:ByteArray)=atomX a:=rfl
    rw[hpa]
    dsimp only
    rw[hax]
    simp(disch:=omega)
    refine hB0.go fun n7 hn7=>?_
    simp(disch:=omega)
    refine(t_rSame a a ha ha).go fun n75 hn75=>?_
    rw[cmpA_self]
    simp(disch:=omega)
    refine hS0.go fun n8 hn8=>?_
    cases hrs:readC s with
    |error p=>
     obtain⟨e,x⟩:=p
     have he:=readC_err hrs
     simp(disch:=omega)[clausesV,he]
     refine hs.go fun n9 hn9=>?_
     simp(disch:=omega)
     exact doneK hH (by simp[])
    |ok m=>
     obtain⟨hm40,hmf⟩:=readC_formed hrs
     obtain⟨hmp,hmr⟩:=readC_print hm40 hmf
     have hM0:=t_Parse ⟨⟨flat (clausesPc m)⟩⟩
     have hPm:=t_Print m fun _ c hc=>clauseOk_ok3 (hmf c hc)
     rw[hmp]at hPm
     simp(disch:=omega)[clausesV]
     refine hPm.go fun n9 hn9=>?_
     obtain⟨w,hw⟩:∃w,flat (clausesPc m)=w:=⟨_,rfl⟩
     dsimp only
     rw[hw]at hmr hM0 ⊢
     have hws:(⟨⟨w⟩⟩:ByteArray).size=w.length:=rfl
     by_cases hwz:6000<w.length
     ·have hwz':(6000:Int)<(w.length:Int):=by omega
      simp(disch:=omega)[hws,hwz']
      refine hs.go fun n10 hn10=>?_
      simp(disch:=omega)
      exact doneK hH (by simp[])
     ·have hwz':¬(6000:Int)<(w.length:Int):=by omega
      rw[hmr (by omega)]at hM0
      simp(disch:=omega)[hws,hwz']
      refine hM0.go fun n10 hn10=>?_
      simp(disch:=omega)[clausesV]
      refine hs.go fun n11 hn11=>?_
      simp(disch:=omega)
      refine(t_sameClauses m .no .no (clOk_of hm40 hmf)).go fun n12 hn12=>?_
      simp(disch:=omega)
      exact doneK hH (by simp[])
 ·obtain⟨pe,hpe⟩:∃pe,(printB l).2=pe:=⟨_,rfl⟩
  rw[hpe]at hbad ⊢
  simp(disch:=omega)[hbad]
  refine hA0.go fun n6 hn6=>?_
  cases hao:atomOk a
  case false=>
   have hpa:printA a=([],7):=by unfold printA;rw[if_pos hao]
   simp(disch:=omega)[hpa]
   refine hS0.go fun n8 hn8=>?_
   cases hrs:readC s with
   |error p=>
    obtain⟨e,x⟩:=p
    have he:=readC_err hrs
    simp(disch:=omega)[clausesV,he]
    refine hs.go fun n9 hn9=>?_
    simp(disch:=omega)
    exact doneK hH (by simp[])
   |ok m=>
    obtain⟨hm40,hmf⟩:=readC_formed hrs
    obtain⟨hmp,hmr⟩:=readC_print hm40 hmf
    have hM0:=t_Parse ⟨⟨flat (clausesPc m)⟩⟩
    have hPm:=t_Print m fun _ c hc=>clauseOk_ok3 (hmf c hc)
    rw[hmp]at hPm
    simp(disch:=omega)[clausesV]
    refine hPm.go fun n9 hn9=>?_
    obtain⟨w,hw⟩:∃w,flat (clausesPc m)=w:=⟨_,rfl⟩
    dsimp only
    rw[hw]at hmr hM0 ⊢
    have hws:(⟨⟨w⟩⟩:ByteArray).size=w.length:=rfl
    by_cases hwz:6000<w.length
    ·have hwz':(6000:Int)<(w.length:Int):=by omega
     simp(disch:=omega)[hws,hwz']
     refine hs.go fun n10 hn10=>?_
     simp(disch:=omega)
     exact doneK hH (by simp[])
    ·have hwz':¬(6000:Int)<(w.length:Int):=by omega
     rw[hmr (by omega)]at hM0
     simp(disch:=omega)[hws,hwz']
     refine hM0.go fun n10 hn10=>?_
     simp(disch:=omega)[clausesV]
     refine hs.go fun n11 hn11=>?_
     simp(disch:=omega)
     refine(t_sameClauses m .no .no (clOk_of hm40 hmf)).go fun n12 hn12=>?_
     simp(disch:=omega)
     exact doneK hH (by simp[])
  case true=>
   have hpa:printA a=((atomX a).data.toList,0):=by unfold printA;rw[if_neg (by rw[hao];simp)]
   have hB0:=t_ParseAtom (atomX a)
   rw[readA_print hao]at hB0
   have hB0:PureT 8 [.str (atomX a)] (.tup [atomL a,.int 0,.int 0]):=hB0
   have hax:(⟨⟨(atomX a).data.toList⟩⟩:ByteArray)=atomX a:=rfl
   rw[hpa]
   dsimp only
   rw[hax]
   simp(disch:=omega)
   refine hB0.go fun n7 hn7=>?_
   simp(disch:=omega)
   refine(t_rSame a a ha ha).go fun n75 hn75=>?_
   rw[cmpA_self]
   simp(disch:=omega)
   refine hS0.go fun n8 hn8=>?_
   cases hrs:readC s with
   |error p=>
    obtain⟨e,x⟩:=p
    have he:=readC_err hrs
    simp(disch:=omega)[clausesV,he]
    refine hs.go fun n9 hn9=>?_
    simp(disch:=omega)
    exact doneK hH (by simp[])
   |ok m=>
    obtain⟨hm40,hmf⟩:=readC_formed hrs
    obtain⟨hmp,hmr⟩:=readC_print hm40 hmf
    have hM0:=t_Parse ⟨⟨flat (clausesPc m)⟩⟩
    have hPm:=t_Print m fun _ c hc=>clauseOk_ok3 (hmf c hc)
    rw[hmp]at hPm
    simp(disch:=omega)[clausesV]
    refine hPm.go fun n9 hn9=>?_
    obtain⟨w,hw⟩:∃w,flat (clausesPc m)=w:=⟨_,rfl⟩
    dsimp only
    rw[hw]at hmr hM0 ⊢
    have hws:(⟨⟨w⟩⟩:ByteArray).size=w.length:=rfl
    by_cases hwz:6000<w.length
    ·have hwz':(6000:Int)<(w.length:Int):=by omega
     simp(disch:=omega)[hws,hwz']
     refine hs.go fun n10 hn10=>?_
     simp(disch:=omega)
     exact doneK hH (by simp[])
    ·have hwz':¬(6000:Int)<(w.length:Int):=by omega
     rw[hmr (by omega)]at hM0
     simp(disch:=omega)[hws,hwz']
     refine hM0.go fun n10 hn10=>?_
     simp(disch:=omega)[clausesV]
     refine hs.go fun n11 hn11=>?_
     simp(disch:=omega)
     refine(t_sameClauses m .no .no (clOk_of hm40 hmf)).go fun n12 hn12=>?_
     simp(disch:=omega)
     exact doneK hH (by simp[])
end Go.Abs.Tz
namespace Go.Abs.Tz
set_option maxRecDepth 20000
open Go Go.Abs Go.Proofs Go.ChangeShapes Go.WideShapes Go.RowKit Go.Proofs.YtjdooijejbmbnaaGreatDoor
theorem law_run4(l:List Clause)(a:Atom)(s:ByteArray)(hb:∀c∈l,c.body.length<2^63)(W:World)(hW:laidMetH Tryz.prog Rows.customReadsAsSpecifiedRow.laid W)(us:Array Value)(h0:us.size=3)
  (h1:VR (gOf W) W (clausesL l) (us.getD 0 undef)) (h2:VR (gOf W) W (atomL a) (us.getD 1 undef)) (h3:us.getD 2 undef=.string s):
  Calls Tryz.prog 4 us W fun e W'=>e=.returned (.bool true)/\Below W.heap.size W W':=by
 have hO:cP E0 F0 4 [clausesL l,atomL a,.str s] ⟨[],1⟩ (fun v _=>v=.bool true) (fun _ _=>False):=
  t_law4 t_sanity l a s hb ⟨[],1⟩ _ _ fun _ _=>rfl
 have hC:CallOk Tryz.prog E0 4 [clausesL l,atomL a,.str s] ⟨[],1⟩ _:=sound hmixT fnsT (hO trivial)
 refine(hC.2 (gOf W) W us (gOf_inv W 1) (gOf_env W hW) ⟨h0,fun i x hi=>?_⟩).mono fun e W' hp=>?_
 ·match i,hi with
  |0,hi=>simp at hi;subst hi;exact h1
  |1,hi=>simp at hi;subst hi;exact h2
  |2,hi=>simp at hi;subst hi;rw[h3];exact .sc _
  |i+3,hi=>simp at hi
 ·cases e with
  |outgrown=>exact hp.elim
  |panicked ch=>
   obtain⟨_,_,_,_,hT,_⟩:=hp
   rcases hT with⟨_,_,he,_⟩|⟨_,_,he,_,hf⟩
   ·cases he
   ·exact hf.elim
  |returned u=>
   obtain⟨v,H',G',hT,hV,_,hx⟩:=hp
   rcases hT with⟨v',H'',he,_,hv⟩|⟨_,_,he,_⟩
   ·cases he
    subst hv
    obtain rfl:=hV.sc_inv
    exact⟨rfl,hx.os,hx.tape,hx.output,hx.size,fun k hk=>hx.block k (by simp[gOf,hk])⟩
   ·cases he
end Go.Abs.Tz
