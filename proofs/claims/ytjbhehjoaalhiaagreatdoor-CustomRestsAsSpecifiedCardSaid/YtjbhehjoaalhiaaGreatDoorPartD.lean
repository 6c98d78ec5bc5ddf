/- Part of the proof that the law CustomRestsAsSpecified holds. Conditions: none. -/
import Derived.Test.YtjbhehjoaalhiaaGreatDoorPartC
set_option linter.unusedVariables false
set_option linter.unusedSimpArgs false
set_option linter.unusedSectionVars false
namespace Go.Abs
open Go
def FT.one(k:Nat)(v:LV):FT:=if k=0 then .nd v .nil .nil else if k % 2=1 then .nd .bot (FT.one (k / 2) v) .nil else .nd .bot .nil (FT.one (k / 2 - 1) v)
termination_by k
decreasing_by all_goals omega
def FT.set:FT->Nat->LV->FT
 |.nil,k,v=>FT.one k v
 |.nd u l r,k,v=>if k=0 then .nd v l r else if k % 2=1 then .nd u (FT.set l (k / 2) v) r else .nd u l (FT.set r (k / 2 - 1) v)
theorem FT.get_nil(k:Nat):FT.nil.get k=.bot:=rfl
theorem FT.one_get(k:Nat)(v:LV):(FT.one k v).get=upd (fun _=>.bot) k v:=by
 induction k using Nat.strongRecOn with
 |ind k ih=>
  funext j
  rw[FT.one]
  split
  ·rename_i h;subst h
   rw[FT.get_node];simp only[upd,FT.get_nil]
   split
   ·rfl
   ·split<;>rfl
  ·rename_i h0
   split
   ·rename_i h1
    rw[FT.get_node,ih (k / 2) (by omega)]
    simp only[upd,FT.get_nil]
    by_cases hj:j=k
    ·subst hj;simp[h0,h1]
    ·rw[if_neg hj]
     by_cases hj0:j=0
     ·simp[hj0]
     ·by_cases hj1:j % 2=1
      ·have:j / 2≠k / 2:=by omega
       simp[hj0,hj1,this]
      ·simp[hj0,hj1]
   ·rename_i h1
    rw[FT.get_node,ih (k / 2 - 1) (by omega)]
    simp only[upd,FT.get_nil]
    by_cases hj:j=k
    ·subst hj;simp[h0,h1]
    ·rw[if_neg hj]
     by_cases hj0:j=0
     ·simp[hj0]
     ·by_cases hj1:j % 2=1
      ·simp[hj0,hj1]
      ·have:j / 2 - 1≠k / 2 - 1:=by omega
       simp[hj0,hj1,this]
theorem FT.set_get:∀(t:FT)(k:Nat)(v:LV),(t.set k v).get=upd t.get k v
 |.nil,k,v=>by rw[FT.set,FT.one_get];rfl
 |.nd u l r,k,v=>by
  funext j
  rw[FT.set]
  split
  ·rename_i h;subst h
   rw[FT.get_node];simp only[upd,FT.get_node]
   by_cases hj:j=0<;>simp[hj]
  ·rename_i h0
   split
   ·rename_i h1
    rw[FT.get_node,FT.set_get l]
    simp only[upd,FT.get_node]
    by_cases hj:j=k
    ·subst hj;simp[h0,h1]
    ·rw[if_neg hj]
     by_cases hj0:j=0
     ·simp[hj0]
     ·by_cases hj1:j % 2=1
      ·have:j / 2≠k / 2:=by omega
       simp[hj0,hj1,this]
      ·simp[hj0,hj1]
   ·rename_i h1
    rw[FT.get_node,FT.set_get r]
    simp only[upd,FT.get_node]
    by_cases hj:j=k
    ·subst hj;simp[h0,h1]
    ·rw[if_neg hj]
     by_cases hj0:j=0
     ·simp[hj0]
     ·by_cases hj1:j % 2=1
      ·simp[hj0,hj1]
      ·have:j / 2 - 1≠k / 2 - 1:=by omega
       simp[hj0,hj1,this]
def FT.Le:FT->FT->Prop
 |.nil,_=>True
 |.nd v l r,.nd u l' r'=>Wk u v/\FT.Le l l'/\FT.Le r r'
 |.nd v l r,.nil=>v=.bot/\FT.Le l .nil/\FT.Le r .nil
theorem FT.Le.fwk:∀{s t:FT},FT.Le s t->FWk t.get s.get
 |.nil,t,_=>fun k=>.inr (.inr rfl)
 |.nd v l r,.nd u l' r',h=>fun k=>by
  rw[FT.get_node,FT.get_node]
  split
  ·exact h.1
  ·split
   ·exact FT.Le.fwk h.2.1 _
   ·exact FT.Le.fwk h.2.2 _
 |.nd v l r,.nil,h=>fun k=>by
  rw[FT.get_node,FT.get_nil]
  split
  ·exact .inl h.1
  ·split
   ·exact FT.Le.fwk h.2.1 _
   ·exact FT.Le.fwk h.2.2 _
def zE(t:FT)(n:Nat)(k:LV->Prop):Prop:=k (t.get n)
def vE(t:FT)(n:Nat)(v:LV)(k:FT->Prop):Prop:=k (t.set n v)
def qdY(n:Nat)(v:LV)(k:FT->Prop):Prop:=k (FT.one n v)
theorem yb(n:Nat)(k:LV->Prop):zE .nil n k=k .bot:=rfl
theorem ya(v:LV)(l r:FT)(n:Nat)(k:LV->Prop):zE (.nd v l r) n k=if n=0 then k v else if n % 2=1 then zE l (n / 2) k else zE r (n / 2 - 1) k:=by
 unfold zE;rw[FT.get_node];split
 ·rfl
 ·split<;>rfl
theorem jv(n:Nat)(v:LV)(k:FT->Prop):vE .nil n v k=qdY n v k:=by unfold vE qdY;rw[FT.set]
theorem ju(u:LV)(l r:FT)(n:Nat)(v:LV)(k:FT->Prop):vE (.nd u l r) n v k=if n=0 then k (.nd v l r) else if n % 2=1 then vE l (n / 2) v (fun l'=>k (.nd u l' r)) else vE r (n / 2 - 1) v (fun r'=>k (.nd u l r')):=by
 unfold vE;rw[FT.set];split
 ·rfl
 ·split<;>rfl
theorem gI(n:Nat)(v:LV)(k:FT->Prop):qdY n v k=if n=0 then k (.nd v .nil .nil) else if n % 2=1 then qdY (n / 2) v (fun l'=>k (.nd .bot l' .nil)) else qdY (n / 2 - 1) v (fun r'=>k (.nd .bot .nil r')):=by
 unfold qdY;rw[FT.one];split
 ·rfl
 ·split<;>rfl
def Tie{α:Sort _}(_:α):Type:=Unit
abbrev XP:=qaG->FT->qa->Prop
abbrev HP:=LV->qa->Prop
def XSP(k:XP):Res->Prop:=fun r=>∃e t H,r=.code e t.get [] H/\H.Ok/\k e t H
def CSP(kv kp:HP):Res->Prop:=fun r=>(∃v H,r=.ret v H/\H.Ok/\kv v H)\/∃v H,r=.pan v H/\H.Ok/\kp v H
def cP(E:Env)(F:Fns)(f:FuncId)(args:List LV)(H:qa)(kv kp:HP)(_:Tie (H,kv,kp):=()):Prop:=H.Ok->Out E F (.call f args H) (CSP kv kp)
def lP(E:Env)(F:Fns)(c:qo)(t:FT)(H:qa)(k:XP)(_:Tie (c,t,k):=()):Prop:=H.Ok->Out E F (.code c t.get [] H) (XSP k)
def vP{α:Type}(o:Option α)(k:α->Prop)(_:Tie k:=()):Prop:=∃v,o=some v/\k v
def eP(o:Option (LV×qa))(k:HP)(_:Tie k:=()):Prop:=∃v H,o=some (v,H)/\k v H
def bP(v:LV)(A B:Prop)(_:Tie (A,B):=()):Prop:=(v=.bool true/\A)\/(v=.bool false/\B)
def gP(w:Bool)(v:LV)(yes no:Prop)(_:Tie (yes,no):=()):Prop:=(v=.sc (.bool w)/\yes)\/(v=.sc (.bool (!w))/\no)\/(v=.tup []/\no)
def evP(E:Env)(x:BO)(t:FT)(k:LV->Prop):Prop:=k (E.ev t.get x)
def vX(E:Env)(xs:List BO)(t:FT)(k:List LV->Prop):Prop:=k (xs.map (E.ev t.get))
def clP(E:Env)(F:Fns)(x:LV)(args:List LV)(H:qa)(kv kp:HP)(_:Tie (H,kv,kp):=()):Prop:=∃f first cap,x=.fn (.func f) first cap/\cP E F f (first++args++cap) H kv kp
def pnP(x:LV)(k:LV->Prop):Prop:=∃ty v,x=.iface ty v/\k (.iface ty v)
def qC(E:Env)(op:BOp)(t:FT)(H:qa)(k:LV->Prop):Prop:=vP (qz E t.get H op) k
def wv(E:Env)(op:BOp)(t:FT)(H:qa)(k:HP):Prop:=eP (uo E t.get H op) k\/eP (wR E t.get H op) k
def nxP(E:Env)(x:LV)(H:qa)(kv:HP)(_:Tie kv:=()):Prop:=
 ∃o m left k n,x=.ptr o 0/\look o H.objs=some (.iter m left k n) /\
  ((left=[]/\(m=o\/∃es,look m H.objs=some (.map es)/\es.length=n)/\kv (.tup [.bool false]) H) \/
   (left≠[]/\∃es,look m H.objs=some (.map es)/\es.length=n/\∀j q e,left[j]? = some q->es[q]? = some e->kv (.tup [.bool true,e.1,e.2]) (H.put o (.iter m (left.eraseIdx j) (some q) n))))
def opP(E:Env)(F:Fns)(op:BOp)(t:FT)(H:qa)(kv kp:HP):Prop:=
 match op with
 |.cf f as=>vX E as t fun vs=>cP E F f vs H kv kp
 |.cl x as=>evP E x t fun v=>vX E as t fun vs=>clP E F v vs H kv kp
 |.pn x=>evP E x t fun v=>pnP v fun u=>kp u H
 |.nx x=>evP E x t fun v=>nxP E v H kv
 |.al _|.bx _|.st _ _ _|.ap _ _ _|.mk|.nb _ _|.mu _ _ _ _|.ms _ _|.rg _=>wv E op t H kv
 |op=>qC E op t H fun v=>kv v H
def w9(d:Option Nat)(t:FT)(v:LV)(k:FT->Prop):Prop:=match d with
 |none=>k t
 |some d=>vE t d v k
def qcw(g:Option (Nat×Bool))(t:FT)(yes no:Prop):Prop:=match g with
 |none=>yes
 |some (j,w)=>zE t j fun v=>gP w v yes no
def vH(E:Env)(F:Fns):List BI->FT->qa->XP->Prop
 |[],t,H,k=>k .normal t H
 |i::l,t,H,k=>qcw i.g t (opP E F i.op t H (fun v H'=>w9 i.d t v fun t'=>vH E F l t' H' k) (fun v H'=>k (.pan v) t H')) (w9 i.d t (.tup []) fun t'=>vH E F l t' H k)
def wJ(E:Env)(t:FT)(H:qa):List BI->Prop
 |[]=>True
 |b::p=>qcw b.g t (∃d,b.d=some d/\zE t d fun u=>qC E b.op t H fun v=>u=v) True/\wJ E t H p
def vj(E:Env)(F:Fns):List (BI×List BI)->FT->qa->XP->Prop
 |[],t,H,k=>k .normal t H
 |ip::l,t,H,k=>qcw ip.1.g t
   (match ip.1.op with
    |.pn _=>False
    |.nx _=>False
    |.cf f as=>vX E as t fun vs=>cP E F f vs H (fun v H'=>wJ E t H' ip.2/\w9 ip.1.d t v fun t'=>vj E F l t' H' k) (fun v H'=>k (.pan v) .nil H')
    |.cl x as=>evP E x t fun u=>vX E as t fun vs=>clP E F u vs H (fun v H'=>wJ E t H' ip.2/\w9 ip.1.d t v fun t'=>vj E F l t' H' k) (fun v H'=>k (.pan v) .nil H')
    |.al _|.bx _|.st _ _ _|.ap _ _ _|.mk|.nb _ _|.mu _ _ _ _|.ms _ _|.rg _=>wv E ip.1.op t H fun v H'=>wJ E t H' ip.2/\w9 ip.1.d t v fun t'=>vj E F l t' H' k
    |op=>qC E op t H fun v=>w9 ip.1.d t v fun t'=>vj E F l t' H k)
   (w9 ip.1.d t (.tup []) fun t'=>vj E F l t' H k)
def qdg(kb:FT->qa->Prop)(k:XP):XP:=fun e t H=>match e with
 |.normal=>kb t H
 |.ret=>k .ret t H
 |.exit n=>k (.exit n) t H
 |.pan v=>k (.pan v) t H
def qcP(id:Nat)(k:XP):XP:=fun e t H=>match e with
 |.normal=>k .normal t H
 |.ret=>k .ret t H
 |.exit n=>if n=id then k .normal t H else k (.exit n) t H
 |.pan v=>k (.pan v) t H
def uJ(E:Env)(F:Fns):qo->FT->qa->XP->Prop
 |.skip,t,H,k=>k .normal t H
 |.ops l,t,H,k=>vH E F l t H k
 |.drw l,t,H,k=>vj E F l t H k
 |.seq a b,t,H,k=>uJ E F a t H (qdg (fun t' H'=>uJ E F b t' H' k) k)
 |.cond c a b,t,H,k=>evP E c t fun v=>bP v (uJ E F a t H k) (uJ E F b t H k)
 |.blk id c,t,H,k=>uJ E F c t H (qcP id k)
 |.loop c,t,H,k=>lP E F (.loop c) t H k
 |.exit id,t,H,k=>k (.exit id) t H
 |.ret,t,H,k=>k .ret t H
 |_,_,_,_=>False
section
variable{E:Env}{F:Fns}
theorem qbJ{d:Option Nat}{t:FT}{v:LV}{k:FT->Prop}(h:w9 d t v k):∃t',k t'/\t'.get=z8 t.get d v:=by
 cases d with
 |none=>exact⟨t,h,rfl⟩
 |some d=>exact⟨_,h,FT.set_get t d v⟩
theorem qhO{g:Option (Nat×Bool)}{t:FT}{yes no:Prop}(h:qcw g t yes no):(zc t.get g=some true/\yes)\/(zc t.get g=some false/\no):=by
 unfold qcw at h
 split at h
 ·exact .inl ⟨rfl,h⟩
 ·rename_i j w
  unfold zE at h
  rcases h with⟨h1,h2⟩|⟨h1,h2⟩|⟨h1,h2⟩
  ·exact .inl ⟨by simp[zc,h1],h2⟩
  ·exact .inr ⟨by cases w<;>simp[zc,h1],h2⟩
  ·exact .inr ⟨by simp[zc,h1],h2⟩
theorem qpp{op:BOp}{t:FT}{H:qa}{k:HP}(h:wv E op t H k):∃v H',qae E t.get H op v H'/\k v H':=by
 rcases h with⟨v,H',h1,h2⟩|⟨v,H',h1,h2⟩
 ·exact⟨v,H',.inl h1,h2⟩
 ·exact⟨v,H',.inr h1,h2⟩
theorem qiO{t:FT}{H:qa}:∀{p:List BI},wJ E t H p->qcW E t.get H p
 |[],_=>fun b hb=>by cases hb
 |a::p,h=>fun b hb hw=>by
  rcases List.mem_cons.1 hb with rfl|hb
  ·rcases qhO h.1 with⟨h1,d,h2,v,h3,h4⟩|⟨h1,_⟩
   ·exact⟨d,h2,by rw[h3,<-h4]⟩
   ·rw[hw]at h1;cases h1
  ·exact qiO h.2 b hb hw
theorem qdn:∀(l:List BI)(t:FT)(H:qa)(k:XP),H.Ok->vH E F l t H k->Out E F (.code (.ops l) t.get [] H) (XSP k)
 |[],t,H,k,hH,h=>.nil ⟨.normal,t,H,rfl,hH,h⟩
 |i::l,t,H,k,hH,h=>by
  rcases qhO (show qcw i.g t _ _ from h) with⟨hw,h⟩|⟨hw,h⟩
  ·have call:∀(f:FuncId)(args:List LV),vy E t.get i.op=some (f,args)->cP E F f args H (fun v H'=>w9 i.d t v fun t'=>vH E F l t' H' k) (fun v H'=>k (.pan v) t H') ->
     Out E F (.code (.ops (i::l)) t.get [] H) (XSP k):=by
    intro f args hc hh
    refine .call hw hc (hh hH) (fun v H' hT=>?_) (fun v H' hT=>?_)
    ·rcases hT with⟨v',H'',he,hok,hk⟩|⟨v',H'',he,hok,hk⟩<;>cases he
     obtain⟨t',h1,h2⟩:=qbJ hk
     rw[<-h2];exact qdn l t' _ k hok h1
    ·rcases hT with⟨v',H'',he,hok,hk⟩|⟨v',H'',he,hok,hk⟩<;>cases he
     exact⟨.pan v,t,H',rfl,hok,hk⟩
   have eff:wv E i.op t H (fun v H'=>w9 i.d t v fun t'=>vH E F l t' H' k)->Out E F (.code (.ops (i::l)) t.get [] H) (XSP k):=by
    intro hh
    obtain⟨v,H',h1,h2⟩:=qpp hh
    obtain⟨t',h3,h4⟩:=qbJ h2
    exact .eff hw h1 (by rw[<-h4];exact qdn l t' H' k (qhp hH h1) h3)
   have val:qC E i.op t H (fun v=>w9 i.d t v fun t'=>vH E F l t' H k)->Out E F (.code (.ops (i::l)) t.get [] H) (XSP k):=by
    intro ⟨v,h1,h2⟩
    obtain⟨t',h3,h4⟩:=qbJ h2
    exact .val hw h1 (by rw[<-h4];exact qdn l t' H k hH h3)
   revert h
   generalize ho:i.op=op
   intro h
   rw[ho]at call eff val
   cases op with
   |cf f as=>exact call f _ rfl h
   |cl x as=>
    obtain⟨f,first,cap,h1,h2⟩:=h
    exact call f _ (by simp only[vy,h1];rfl) h2
   |pn x=>
    obtain⟨ty,v,h1,h2⟩:=h
    exact .pan hw ho h1 ⟨.pan _,t,H,by rw[h1],hH,h2⟩
   |nx x=>
    obtain⟨o,m,left,kk,n,h1,h2,h3⟩:=h
    rcases h3 with⟨rfl,h4,h5⟩|⟨hne,es,h4,h5,h6⟩
    ·obtain⟨t',h7,h8⟩:=qbJ h5
     exact .next_done hw ho h1 h2 h4 (by rw[<-h8];exact qdn l t' H k hH h7)
    ·refine .next_some hw ho h1 h2 hne h4 h5 (fun j q kv hj hq=>?_)
     obtain⟨t',h7,h8⟩:=qbJ (h6 j q kv hj hq)
     rw[<-h8];exact qdn l t' _ k (qn.put hH) h7
   |al _=>exact eff h
   |bx _=>exact eff h
   |st _ _ _=>exact eff h
   |ap _ _ _=>exact eff h
   |mk=>exact eff h
   |nb _ _=>exact eff h
   |mu _ _ _ _=>exact eff h
   |ms _ _=>exact eff h
   |rg _=>exact eff h
   |_=>exact val h
  ·obtain⟨t',h1,h2⟩:=qbJ h
   exact .pass hw (by rw[<-h2];exact qdn l t' H k hH h1)
theorem qfG:∀(l:List (BI×List BI))(t:FT)(H:qa)(k:XP),H.Ok->vj E F l t H k->Out E F (.code (.drw l) t.get [] H) (XSP k)
 |[],t,H,k,hH,h=>.drw_nil ⟨.normal,t,H,rfl,hH,h⟩
 |(i,p)::l,t,H,k,hH,h=>by
  rcases qhO (show qcw i.g t _ _ from h) with⟨hw,h⟩|⟨hw,h⟩
  ·have call:∀(f:FuncId)(args:List LV),vy E t.get i.op=some (f,args)->cP E F f args H (fun v H'=>wJ E t H' p/\w9 i.d t v fun t'=>vj E F l t' H' k) (fun v H'=>k (.pan v) .nil H') ->
     Out E F (.code (.drw ((i,p)::l)) t.get [] H) (XSP k):=by
    intro f args hc hh
    refine .drw_call hw hc (hh hH) (fun v H' hT=>?_) (fun v H' hT=>?_) (fun v H' hT=>?_)
    ·rcases hT with⟨v',H'',he,hok,hk⟩|⟨v',H'',he,hok,hk⟩<;>cases he
     exact qiO hk.1
    ·rcases hT with⟨v',H'',he,hok,hk⟩|⟨v',H'',he,hok,hk⟩<;>cases he
     obtain⟨t',h1,h2⟩:=qbJ hk.2
     rw[<-h2];exact qfG l t' _ k hok h1
    ·rcases hT with⟨v',H'',he,hok,hk⟩|⟨v',H'',he,hok,hk⟩<;>cases he
     exact⟨.pan v,.nil,H',rfl,hok,hk⟩
   have eff:wv E i.op t H (fun v H'=>wJ E t H' p/\w9 i.d t v fun t'=>vj E F l t' H' k)->Out E F (.code (.drw ((i,p)::l)) t.get [] H) (XSP k):=by
    intro hh
    obtain⟨v,H',h1,hp,h2⟩:=qpp hh
    obtain⟨t',h3,h4⟩:=qbJ h2
    exact .drw_eff hw h1 (qiO hp) (by rw[<-h4];exact qfG l t' H' k (qhp hH h1) h3)
   have val:qC E i.op t H (fun v=>w9 i.d t v fun t'=>vj E F l t' H k)->Out E F (.code (.drw ((i,p)::l)) t.get [] H) (XSP k):=by
    intro ⟨v,h1,h2⟩
    obtain⟨t',h3,h4⟩:=qbJ h2
    exact .drw_val hw h1 (by rw[<-h4];exact qfG l t' H k hH h3)
   revert h
   simp only
   generalize ho:i.op=op
   intro h
   rw[ho]at call eff val
   cases op with
   |cf f as=>exact call f _ rfl h
   |cl x as=>
    obtain⟨f,first,cap,h1,h2⟩:=h
    exact call f _ (by simp only[vy,h1];rfl) h2
   |pn x=>exact h.elim
   |nx x=>exact h.elim
   |al _=>exact eff h
   |bx _=>exact eff h
   |st _ _ _=>exact eff h
   |ap _ _ _=>exact eff h
   |mk=>exact eff h
   |nb _ _=>exact eff h
   |mu _ _ _ _=>exact eff h
   |ms _ _=>exact eff h
   |rg _=>exact eff h
   |_=>exact val h
  ·obtain⟨t',h1,h2⟩:=qbJ h
   exact .drw_pass hw (by rw[<-h2];exact qfG l t' H k hH h1)
theorem qbg:∀(c:qo)(t:FT)(H:qa)(k:XP),H.Ok->uJ E F c t H k->Out E F (.code c t.get [] H) (XSP k)
 |.skip,t,H,k,hH,h=>.skip ⟨.normal,t,H,rfl,hH,h⟩
 |.ops l,t,H,k,hH,h=>qdn l t H k hH h
 |.drw l,t,H,k,hH,h=>qfG l t H k hH h
 |.seq a b,t,H,k,hH,h=>by
  refine .seq (qbg a t H _ hH h) (fun fr df H' hT=>?_) (fun e fr df H' hT hne=>?_)
  ·obtain⟨e,t',H'',he,hok,hk⟩:=hT
   cases he
   exact qbg b t' H' k hok hk
  ·obtain⟨e',t',H'',he,hok,hk⟩:=hT
   cases he
   cases e with
   |normal=>exact absurd rfl hne
   |exit n=>exact⟨_,t',H',rfl,hok,hk⟩
   |ret=>exact⟨_,t',H',rfl,hok,hk⟩
   |pan v=>exact⟨_,t',H',rfl,hok,hk⟩
 |.cond c a b,t,H,k,hH,h=>by
  rcases (show bP (E.ev t.get c) _ _ from h) with⟨h1,h2⟩|⟨h1,h2⟩
  ·exact .cond_t h1 (qbg a t H k hH h2)
  ·exact .cond_f h1 (qbg b t H k hH h2)
 |.blk id c,t,H,k,hH,h=>by
  refine .blk (qbg c t H _ hH h) (fun fr df H' hT=>?_) (fun fr df H' hT=>?_) (fun e fr df H' hT hne hid=>?_)
  ·obtain⟨e,t',H'',he,hok,hk⟩:=hT
   cases he
   exact⟨_,t',H',rfl,hok,hk⟩
  ·obtain⟨e,t',H'',he,hok,hk⟩:=hT
   cases he
   exact⟨_,t',H',rfl,hok,by simpa [qcP] using hk⟩
  ·obtain⟨e',t',H'',he,hok,hk⟩:=hT
   cases he
   cases e with
   |normal=>exact absurd rfl hne
   |exit j=>exact⟨_,t',H',rfl,hok,by
     have:j≠id:=fun e=>hid (by rw[e])
     simpa [qcP,this] using hk⟩
   |ret=>exact⟨_,t',H',rfl,hok,hk⟩
   |pan v=>exact⟨_,t',H',rfl,hok,hk⟩
 |.loop c,t,H,k,hH,h=>h hH
 |.exit id,t,H,k,hH,h=>.exit ⟨.exit id,t,H,rfl,hH,h⟩
 |.ret,t,H,k,hH,h=>.ret ⟨.ret,t,H,rfl,hH,h⟩
 |.rf _ _ _ _,t,H,k,hH,h=>h.elim
 |.bad,t,H,k,hH,h=>h.elim
def qdp(again:FT->qa->Prop)(k:XP):XP:=fun e t H=>match e with
 |.normal=>again t H
 |.ret=>k .ret t H
 |.exit n=>k (.exit n) t H
 |.pan v=>k (.pan v) t H
theorem zS{c:qo}{t:FT}{H:qa}{k:XP}(h:uJ E F c t H k):lP E F c t H k:=fun hH=>qbg c t H k hH h
theorem vh{c:qo}{t t':FT}{H H':qa}{k:XP}(hc:∀l,c≠.drw l)(ht:FT.Le t' t)(hh:HWk H H')(hok:H.Ok->H'.Ok)(h:lP E F c t' H' k):lP E F c t H k:=
 fun hH=>.weak hc ht.fwk hh (h (hok hH))
theorem HWk.refl(H:qa):HWk H H:=⟨Nat.le_refl _,fun _ _ h=>h⟩
theorem qvr{σ:Type}{c:qo}{k:XP}(fr:σ->FT)(hp:σ->qa)(m:σ->Nat)(I:σ->Prop)
  (h:∀s,I s->(hp s).Ok->uJ E F c (fr s) (hp s) (qdp (fun t' H'=>∃s',m s'<m s/\I s'/\FT.Le (fr s') t'/\HWk H' (hp s')/\(H'.Ok->(hp s').Ok)) k)):
  ∀s,I s->lP E F (.loop c) (fr s) (hp s) k:=by
 intro s
 induction hn:m s using Nat.strongRecOn generalizing s with
 |ind n ih=>
  intro hI hH
  refine .loop (qbg c (fr s) (hp s) _ hH (h s hI hH)) (fun fr' df H' hT=>?_) (fun e fr' df H' hT hne=>?_)
  ·obtain⟨e,t',H'',he,hok,hk⟩:=hT
   cases he
   obtain⟨s',h1,h2,h3,h4,h5⟩:=hk
   exact .weak (fun l=>(by simp)) h3.fwk h4 (ih (m s') (hn▸h1) s' rfl h2 (h5 hok))
  ·obtain⟨e',t',H'',he,hok,hk⟩:=hT
   cases he
   cases e with
   |normal=>exact absurd rfl hne
   |exit n=>exact⟨_,t',H',rfl,hok,hk⟩
   |ret=>exact⟨_,t',H',rfl,hok,hk⟩
   |pan v=>exact⟨_,t',H',rfl,hok,hk⟩
theorem qaQ{c:qo}{t:FT}{H:qa}{k:XP}(h:uJ E F c t H (qdp (fun t' H'=>lP E F (.loop c) t' H' k) k)):lP E F (.loop c) t H k:=by
 intro hH
 refine .loop (qbg c t H _ hH h) (fun fr' df H' hT=>?_) (fun e fr' df H' hT hne=>?_)
 ·obtain⟨e,t',H'',he,hok,hk⟩:=hT
  cases he
  exact hk hok
 ·obtain⟨e',t',H'',he,hok,hk⟩:=hT
  cases he
  cases e with
  |normal=>exact absurd rfl hne
  |exit n=>exact⟨_,t',H',rfl,hok,hk⟩
  |ret=>exact⟨_,t',H',rfl,hok,hk⟩
  |pan v=>exact⟨_,t',H',rfl,hok,hk⟩
theorem qy{σ:Type}{c:qo}{k:XP}(fr:σ->FT)(hp:σ->qa)(m:σ->Nat)(I:σ->Prop)(s:σ){t:FT}{H:qa}
  (hI:I s) (ht:FT.Le (fr s) t) (hh:HWk H (hp s)/\(H.Ok->(hp s).Ok))
  (h:∀s,I s->(hp s).Ok->uJ E F c (fr s) (hp s) (qdp (fun t' H'=>∃s',m s'<m s/\I s'/\FT.Le (fr s') t'/\HWk H' (hp s')/\(H'.Ok->(hp s').Ok)) k)):
  lP E F (.loop c) t H k:=
 vh (fun l=>(by simp)) ht hh.1 hh.2 (qvr fr hp m I h s hI)
def qcT:List LV->Nat->FT->(FT->Prop)->Prop
 |[],_,t,k=>k t
 |v::l,n,t,k=>vE t n v fun t'=>qcT l (n+1) t' k
theorem qfO:∀{l:List LV}{n:Nat}{t:FT}{k:FT->Prop},qcT l n t k->∃t',k t'/\∀j,t'.get j=if n<=j/\j<n+l.length then l.getD (j - n) .bot else t.get j
 |[],n,t,k,h=>⟨t,h,fun j=>by rw[if_neg (by simp only[List.length_nil];omega)]⟩
 |v::l,n,t,k,h=>by
  obtain⟨t2,h3,h4⟩:=qfO (l:=l) (show qcT l (n+1) (t.set n v) k from h)
  refine⟨t2,h3,fun j=>?_⟩
  rw[h4 j,FT.set_get]
  simp only[upd,List.length_cons]
  by_cases hj:j=n
  ·subst hj
   rw[if_neg (by omega),if_pos rfl,if_pos (by omega)]
   simp
  ·by_cases hin:n+1<=j/\j<n+1+l.length
   ·rw[if_pos (by omega),if_pos (by omega)]
    obtain⟨m,hm⟩:∃m,j - n=m+1:=⟨j - n - 1,by omega⟩
    rw[hm,show j - (n+1)=m by omega]
    rfl
   ·rw[if_neg (by omega),if_neg hj,if_neg (by omega)]
def vp(E:Env)(res:List qcv)(t:FT)(H:qa)(k:LV->Prop):Prop:=vP (wY H t.get res) k
def qeo(E:Env)(b:BFn)(kv kp:HP):XP:=fun e t H=>match e with
 |.normal=>vp E b.res t H fun v=>kv v H
 |.ret=>vp E b.res t H fun v=>kv v H
 |.pan v=>kp v H
 |.exit _=>False
def fnP(E:Env)(F:Fns)(b:BFn)(args:List LV)(H:qa)(kv kp:HP):Prop:=args.length<=b.n/\qcT args 0 .nil fun t=>uJ E F b.body t H (qeo E b kv kp)
theorem ur{b:BFn}{f:FuncId}{args:List LV}{H:qa}{kv kp:HP}(hf:F.fn f b)
  (h:H.Ok->fnP E F b args H (fun v H'=>∃H'',HWk H' H''/\(H'.Ok->H''.Ok)/\kv v H'') kp):cP E F f args H kv kp:=by
 intro hH
 obtain⟨hn,h⟩:=h hH
 obtain⟨t,h1,h2⟩:=qfO h
 have ht:t.get=zz args:=by
  funext j
  rw[h2 j]
  simp only[zz]
  by_cases hj:j<args.length
  ·rw[if_pos (by omega)];simp
  ·rw[if_neg (by omega)]
   have:args[j]? = none:=List.getElem?_eq_none (by omega)
   simp[List.getD_eq_getElem?_getD,this,FT.get_nil]
 have hb:=qbg b.body t H _ hH h1
 rw[ht]at hb
 refine .enter hf hn hb (fun fr df H' hT=>?_) (fun v fr df H' hT=>?_) (fun n fr df H' hT=>?_)
 ·have:∃(t':FT),fr=t'.get/\df=[]/\H'.Ok/\vp E b.res t' H' fun v=>∃H'',HWk H' H''/\(H'.Ok->H''.Ok)/\kv v H'':=by
   rcases hT with⟨e,t',H'',he,hok,hk⟩|⟨e,t',H'',he,hok,hk⟩<;>cases he
   ·exact⟨t',rfl,rfl,hok,hk⟩
   ·exact⟨t',rfl,rfl,hok,hk⟩
  obtain⟨t',rfl,rfl,hok,v,hv,H1,h3,h4,h5⟩:=this
  exact⟨rfl,v,v,H1,hv,.inl rfl,h3,.inl ⟨v,H1,rfl,h4 hok,h5⟩⟩
 ·obtain⟨e,t',H'',he,hok,hk⟩:=hT
  cases he
  exact⟨rfl,v,H',.inl rfl,⟨Nat.le_refl _,fun _ _ h=>h⟩,.inr ⟨v,H',rfl,hok,hk⟩⟩
 ·obtain⟨e,t',H'',he,hok,hk⟩:=hT
  cases he
  cases hk
def ql(H H':qa):Prop:=H.next<=H'.next/\∀i o,look i H.objs=some o->look i H'.objs=some o
theorem ql.refl{H:qa}{n:Nat}(h:H.next<=n):ql H ⟨H.objs,n⟩:=⟨h,fun _ _ h=>h⟩
theorem ql.refl'(H:qa):ql H H:=⟨Nat.le_refl _,fun _ _ h=>h⟩
theorem ql.cons{H:qa}(hH:H.Ok){i n m:Nat}{o:qc}{l:List (Nat×qc)}(hi:H.next<=i)(h:ql H ⟨l,n⟩)(hm:H.next<=m):ql H ⟨(i,o)::l,m⟩:=
 ⟨hm,fun j x hj=>by
  have:=hH.look hj
  simp only[look]
  rw[if_neg (by omega)]
  exact h.2 j x hj⟩
def qbw(E:Env)(F:Fns)(f:FuncId)(args:List LV)(v:LV):Prop:=∀(H:qa)(kv kp:HP),(∀n,H.next<=n->kv v ⟨H.objs,n⟩)->cP E F f args H kv kp
def qdV(H:qa)(v:LV):HP:=fun u H'=>∃H'',HWk H' H''/\(H'.Ok->H''.Ok)/\u=v/\∃n,H.next<=n/\H''=⟨H.objs,n⟩
theorem qcE{H H':qa}{u v:LV}(hH:H.Ok)(h:u=v)(he:ql H H'):qdV H v u H':=
 ⟨⟨H.objs,H'.next⟩,⟨Nat.le_refl _,he.2⟩,fun _=>qn.mono hH he.1,h,_,he.1,rfl⟩
theorem qbw.of_fn{b:BFn}{f:FuncId}{args:List LV}{v:LV}(hf:F.fn f b)(h:∀H:qa,H.Ok->fnP E F b args H (qdV H v) (fun _ _=>False)):qbw E F f args v:=by
 intro H kv kp hk hH
 have h1:=ur (kv:=fun u H''=>u=v/\∃n,H.next<=n/\H''=⟨H.objs,n⟩) (kp:=fun _ _=>False) hf (fun hH=>h H hH) hH
 refine .mono h1 fun r hr=>?_
 rcases hr with⟨u,H',rfl,hok,rfl,n,hn,rfl⟩|⟨u,H',rfl,hok,hf⟩
 ·exact .inl ⟨u,_,rfl,hok,hk n hn⟩
 ·exact hf.elim
end
end Go.Abs
namespace Go.Abs
open Go
section
variable{E:Env}{F:Fns}
theorem zg{α:Type}(v:α)(k:α->Prop):vP (some v) k=k v:=propext ⟨fun⟨_,h,h'⟩=>by cases h;exact h',fun h=>⟨v,rfl,h⟩⟩
theorem zB{α:Type}(k:α->Prop):vP none k=False:=propext ⟨fun⟨_,h,_⟩=>(by cases h),False.elim⟩
theorem ut{α β:Type}(o:Option α)(f:α->β)(k:β->Prop):vP (o.map f) k=vP o fun v=>k (f v):=by
 cases o with
 |none=>rw[Option.map_none,zB,zB]
 |some v=>rw[Option.map_some,zg,zg]
theorem jr{α β:Type}(o:Option α)(f:α->Option β)(k:β->Prop):vP (o.bind f) k=vP o fun v=>vP (f v) k:=by
 cases o with
 |none=>rw[Option.bind_none,zB,zB]
 |some v=>rw[Option.bind_some,zg]
theorem up(v:LV)(H:qa)(k:HP):eP (some (v,H)) k=k v H:=propext ⟨fun⟨_,_,h,h'⟩=>by cases h;exact h',fun h=>⟨v,H,rfl,h⟩⟩
theorem qdC(b:Bool)(A B:Prop):bP (.sc (.bool b)) A B=((b=true->A)/\(b=false->B)):=by
 cases b<;>simp[bP]
theorem yP(A B:Prop):bP (.sc (.bool true)) A B=A:=by simp[bP]
theorem yQ(A B:Prop):bP (.sc (.bool false)) A B=B:=by simp[bP]
theorem yc(w:Bool)(A B:Prop):gP w (.sc (.bool w)) A B=A:=by cases w<;>simp[gP]
theorem ye(A B:Prop):gP true (.sc (.bool false)) A B=B:=by simp[gP]
theorem yf(A B:Prop):gP false (.sc (.bool true)) A B=B:=by simp[gP]
theorem yd(w:Bool)(A B:Prop):gP w (.tup []) A B=B:=by cases w<;>simp[gP]
theorem qei(b:Bool)(A B:Prop):gP true (.sc (.bool b)) A B=((b=true->A)/\(b=false->B)):=by cases b<;>simp[gP]
theorem qej(b:Bool)(A B:Prop):gP false (.sc (.bool b)) A B=((b=true->B)/\(b=false->A)):=by cases b<;>simp[gP]
theorem jA(t:FT)(H:qa)(k:XP):uJ E F .skip t H k=k .normal t H:=propext Iff.rfl
theorem jD(l:List BI)(t:FT)(H:qa)(k:XP):uJ E F (.ops l) t H k=vH E F l t H k:=propext Iff.rfl
theorem jG(l:List (BI×List BI))(t:FT)(H:qa)(k:XP):uJ E F (.drw l) t H k=vj E F l t H k:=propext Iff.rfl
theorem jB(a b:qo)(t:FT)(H:qa)(k:XP):uJ E F (.seq a b) t H k=uJ E F a t H (qdg (fun t' H'=>uJ E F b t' H' k) k):=propext Iff.rfl
theorem jH(c:BO)(a b:qo)(t:FT)(H:qa)(k:XP):uJ E F (.cond c a b) t H k=evP E c t fun v=>bP v (uJ E F a t H k) (uJ E F b t H k):=propext Iff.rfl
theorem jI(id:Nat)(c:qo)(t:FT)(H:qa)(k:XP):uJ E F (.blk id c) t H k=uJ E F c t H (qcP id k):=propext Iff.rfl
theorem jE(c:qo)(t:FT)(H:qa)(k:XP):uJ E F (.loop c) t H k=lP E F (.loop c) t H k:=propext Iff.rfl
theorem jF(id:Nat)(t:FT)(H:qa)(k:XP):uJ E F (.exit id) t H k=k (.exit id) t H:=propext Iff.rfl
theorem jC(t:FT)(H:qa)(k:XP):uJ E F .ret t H k=k .ret t H:=propext Iff.rfl
theorem jy(kb:FT->qa->Prop)(k:XP)(t:FT)(H:qa):qdg kb k .normal t H=kb t H:=propext Iff.rfl
theorem jw(kb:FT->qa->Prop)(k:XP)(t:FT)(H:qa):qdg kb k .ret t H=k .ret t H:=propext Iff.rfl
theorem jz(kb:FT->qa->Prop)(k:XP)(n:Nat)(t:FT)(H:qa):qdg kb k (.exit n) t H=k (.exit n) t H:=propext Iff.rfl
theorem jx(kb:FT->qa->Prop)(k:XP)(v:LV)(t:FT)(H:qa):qdg kb k (.pan v) t H=k (.pan v) t H:=propext Iff.rfl
theorem yN(id:Nat)(k:XP)(t:FT)(H:qa):qcP id k .normal t H=k .normal t H:=propext Iff.rfl
theorem yL(id:Nat)(k:XP)(t:FT)(H:qa):qcP id k .ret t H=k .ret t H:=propext Iff.rfl
theorem yO(id:Nat)(k:XP)(n:Nat)(t:FT)(H:qa):qcP id k (.exit n) t H=if n=id then k .normal t H else k (.exit n) t H:=propext Iff.rfl
theorem yM(id:Nat)(k:XP)(v:LV)(t:FT)(H:qa):qcP id k (.pan v) t H=k (.pan v) t H:=propext Iff.rfl
theorem g7(kb:FT->qa->Prop)(k:XP)(t:FT)(H:qa):qdp kb k .normal t H=kb t H:=propext Iff.rfl
theorem gZ(kb:FT->qa->Prop)(k:XP)(t:FT)(H:qa):qdp kb k .ret t H=k .ret t H:=propext Iff.rfl
theorem g8(kb:FT->qa->Prop)(k:XP)(n:Nat)(t:FT)(H:qa):qdp kb k (.exit n) t H=k (.exit n) t H:=propext Iff.rfl
theorem g6(kb:FT->qa->Prop)(k:XP)(v:LV)(t:FT)(H:qa):qdp kb k (.pan v) t H=k (.pan v) t H:=propext Iff.rfl
theorem yk(b:BFn)(kv kp:HP)(t:FT)(H:qa):qeo E b kv kp .normal t H=vp E b.res t H fun v=>kv v H:=propext Iff.rfl
theorem yh(b:BFn)(kv kp:HP)(t:FT)(H:qa):qeo E b kv kp .ret t H=vp E b.res t H fun v=>kv v H:=propext Iff.rfl
theorem yj(b:BFn)(kv kp:HP)(v:LV)(t:FT)(H:qa):qeo E b kv kp (.pan v) t H=kp v H:=propext Iff.rfl
theorem uu(n:Nat)(t:FT)(H:qa)(k:LV->Prop):vp E [.t n] t H k=zE t n k:=by unfold vp zE;simp[wY,wz,zg]
theorem zx(n m:Nat)(t:FT)(H:qa)(k:LV->Prop):vp E [.t n,.t m] t H k=zE t n fun a=>zE t m fun b=>k (.tup [a,b]):=by
 unfold vp zE;simp[wY,wz,zg]
theorem jL(n m q:Nat)(t:FT)(H:qa)(k:LV->Prop):vp E [.t n,.t m,.t q] t H k=zE t n fun a=>zE t m fun b=>zE t q fun c=>k (.tup [a,b,c]):=by
 unfold vp zE;simp[wY,wz,zg]
theorem zh(t:FT)(H:qa)(k:LV->Prop):vp E [] t H k=k (.tup []):=by
 unfold vp;simp[wY,zg]
theorem z7(n:Nat)(m:Option Nat)(t:FT)(H:qa)(k:LV->Prop):vp E [.c n m] t H k=zE t n fun a=>vP (qL H m a) k:=propext Iff.rfl
theorem gL(o n m:Nat)(c:Option Nat)(l:List (Nat×qc))(kv:HP):nxP E (.ptr o 0) ⟨(o,.iter o [] c m)::l,n⟩ kv=kv (.tup [.bool false]) ⟨(o,.iter o [] c m)::l,n⟩:=by
 unfold nxP
 apply propext
 constructor
 ·rintro⟨o',m',left,k,n',h1,h2,h3⟩
  cases h1
  simp only[look,if_true,Option.some.injEq,qc.iter.injEq]at h2
  obtain⟨rfl,rfl,rfl,rfl⟩:=h2
  rcases h3 with⟨_,_,h⟩|⟨h,_⟩
  ·exact h
  ·exact absurd rfl h
 ·intro h
  exact⟨o,o,[],c,m,rfl,by simp[look],.inl ⟨rfl,.inl rfl,h⟩⟩
theorem yS(n:Nat)(t:FT)(k:FT->Prop):qcT [] n t k=k t:=propext Iff.rfl
theorem yT(v:LV)(l:List LV)(n:Nat)(t:FT)(k:FT->Prop):qcT (v::l) n t k=vE t n v fun t'=>qcT l (n+1) t' k:=propext Iff.rfl
theorem yo(n:Nat)(t:FT)(k:LV->Prop):evP E (.t n) t k=zE t n k:=propext Iff.rfl
theorem yq(v:LV)(t:FT)(k:LV->Prop):evP E (.c v) t k=k v:=propext Iff.rfl
theorem yp(n:Nat)(t:FT)(k:LV->Prop):evP E (.g n) t k=k (E.glob n):=propext Iff.rfl
theorem ym(t:FT)(k:List LV->Prop):vX E [] t k=k []:=propext Iff.rfl
theorem yn(x:BO)(xs:List BO)(t:FT)(k:List LV->Prop):vX E (x::xs) t k=evP E x t fun v=>vX E xs t fun vs=>k (v::vs):=propext Iff.rfl
theorem yz(f:FuncId)(first cap args:List LV)(H:qa)(kv kp:HP):clP E F (.fn (.func f) first cap) args H kv kp=cP E F f (first++args++cap) H kv kp:=
 propext ⟨fun⟨_,_,_,h,h'⟩=>by cases h;exact h',fun h=>⟨f,first,cap,rfl,h⟩⟩
theorem jO(ty:TypeId)(v:LV)(k:LV->Prop):pnP (.iface ty v) k=k (.iface ty v):=propext ⟨fun⟨_,_,h,h'⟩=>by cases h;exact h',fun h=>⟨ty,v,rfl,h⟩⟩
theorem jT(t:FT)(H:qa)(k:XP):vH E F [] t H k=k .normal t H:=propext Iff.rfl
theorem jW(d:Nat)(op:BOp)(l:List BI)(t:FT)(H:qa)(k:XP):
  vH E F (⟨some d,none,op⟩::l) t H k=opP E F op t H (fun v H'=>vE t d v fun t'=>vH E F l t' H' k) (fun v H'=>k (.pan v) t H'):=propext Iff.rfl
theorem jS(op:BOp)(l:List BI)(t:FT)(H:qa)(k:XP):
  vH E F (⟨none,none,op⟩::l) t H k=opP E F op t H (fun _ H'=>vH E F l t H' k) (fun v H'=>k (.pan v) t H'):=propext Iff.rfl
theorem jU(d j:Nat)(op:BOp)(l:List BI)(t:FT)(H:qa)(k:XP):
  vH E F (⟨some d,some (j,true),op⟩::l) t H k=zE t j fun u=>gP true u (opP E F op t H (fun v H'=>vE t d v fun t'=>vH E F l t' H' k) (fun v H'=>k (.pan v) t H')) (vE t d (.tup []) fun t'=>vH E F l t' H k):=propext Iff.rfl
theorem jV(d j:Nat)(op:BOp)(l:List BI)(t:FT)(H:qa)(k:XP):
  vH E F (⟨some d,some (j,false),op⟩::l) t H k=zE t j fun u=>gP false u (opP E F op t H (fun v H'=>vE t d v fun t'=>vH E F l t' H' k) (fun v H'=>k (.pan v) t H')) (vE t d (.tup []) fun t'=>vH E F l t' H k):=propext Iff.rfl
theorem gy(f:FuncId)(as:List BO)(t:FT)(H:qa)(kv kp:HP):opP E F (.cf f as) t H kv kp=vX E as t fun vs=>cP E F f vs H kv kp:=propext Iff.rfl
theorem gx(x:BO)(as:List BO)(t:FT)(H:qa)(kv kp:HP):opP E F (.cl x as) t H kv kp=evP E x t fun v=>vX E as t fun vs=>clP E F v vs H kv kp:=propext Iff.rfl
theorem j5(x:BO)(t:FT)(H:qa)(kv kp:HP):opP E F (.pn x) t H kv kp=evP E x t fun v=>pnP v fun u=>kp u H:=propext Iff.rfl
theorem j7(x:BO)(t:FT)(H:qa)(kv kp:HP):opP E F (.nx x) t H kv kp=evP E x t fun v=>nxP E v H kv:=propext Iff.rfl
theorem jb(x:BO)(t:FT)(H:qa)(k:LV->Prop):qC E (.mv x) t H k=evP E x t k:=by unfold qC evP;rw[show qz E t.get H (.mv x)=some (E.ev t.get x) from rfl,zg]
theorem uZ(c a b:BO)(t:FT)(H:qa)(k:LV->Prop):qC E (.pk c a b) t H k=evP E c t fun v=>bP v (evP E a t k) (evP E b t k):=by
 unfold qC evP
 apply propext
 constructor
 ·rintro⟨v,h1,h2⟩
  simp only[qz]at h1
  split at h1
  ·rename_i b' hb
   rw[hb,qdC]
   cases b'<;>simp_all
  ·cases h1
 ·rintro(⟨h1,h2⟩|⟨h1,h2⟩)
  ·exact⟨_,by simp only[qz,h1];rfl,h2⟩
  ·exact⟨_,by simp only[qz,h1];rfl,h2⟩
theorem jm(neg:Bool)(e:EqK)(x y:BO)(t:FT)(H:qa)(k:LV->Prop):qC E (.eq neg e x y) t H k=evP E x t fun a=>evP E y t fun b=>vP (eqK e a b) fun r=>k (.sc (.bool (r != neg))):=ut _ _ _
theorem jp(o:BinOp)(x y:BO)(t:FT)(H:qa)(k:LV->Prop):qC E (.bn o x y) t H k=evP E x t fun a=>evP E y t fun b=>vP (zt o a b) k:=propext Iff.rfl
theorem u9(x:BO)(t:FT)(H:qa)(k:LV->Prop):qC E (.nt x) t H k=evP E x t fun a=>vP (match a with|.sc (.bool b)=>some (LV.sc (.bool !b))|_=>none) k:=propext Iff.rfl
theorem jh(n:Option Nat)(x:BO)(t:FT)(H:qa)(k:LV->Prop):qC E (.ld n x) t H k=evP E x t fun a=>vP (qL H n a) k:=propext Iff.rfl
def faL(off:Nat):LV->Option LV
 |.ptr o k=>some (.ptr o (k+off))
 |.cptr cs k=>some (.cptr cs (k+off))
 |_=>none
theorem jl(off:Nat)(x:BO)(t:FT)(H:qa)(k:LV->Prop):qC E (.fa off x) t H k=evP E x t fun a=>vP (faL off a) k:=propext Iff.rfl
def fdL(off:Nat)(n:Option Nat):LV->Option LV
 |.agg cs=>zb cs off n
 |_=>none
theorem jk(off:Nat)(n:Option Nat)(x:BO)(t:FT)(H:qa)(k:LV->Prop):qC E (.fd off n x) t H k=evP E x t fun a=>vP (fdL off n a) k:=propext Iff.rfl
def iaL(H:qa)(sz:Nat)(x i:LV):Option LV:=match x,qR i with
 |.sl es _,some n=>match es[n]? with
  |some e=>if e.cells.length=sz then some (.cptr e.cells 0) else none
  |none=>none
 |.asl o off len,some n=>match look o H.objs with
  |some (.arr s _)=>if n<len/\s=sz then some (.ptr o ((off+n)*sz)) else none
  |_=>none
 |_,_=>none
theorem jj(sz:Nat)(x i:BO)(t:FT)(H:qa)(k:LV->Prop):qC E (.ia sz x i) t H k=evP E x t fun a=>evP E i t fun b=>vP (iaL H sz a b) k:=propext Iff.rfl
def ixL(m:Option Nat)(x i:LV):Option LV:=match x,qR i,m with
 |.sc (.string s),some n,none=>(s.data[n]?).map fun b=>.sc (.int .u8 b.toNat)
 |.agg cs,some n,some m=>if n<m then cs[n]? else none
 |_,_,_=>none
theorem ji(m:Option Nat)(x i:BO)(t:FT)(H:qa)(k:LV->Prop):qC E (.ix m x i) t H k=evP E x t fun a=>evP E i t fun b=>vP (ixL m a b) k:=propext Iff.rfl
theorem jf(n:Nat)(x:BO)(t:FT)(H:qa)(k:LV->Prop):qC E (.ln n x) t H k=evP E x t fun a=>vP (qV H n a) fun(m:Nat)=>k (.sc (.int .i64 (m:Int))):=ut _ _ _
theorem uV(n sz:Nat)(x:BO)(t:FT)(H:qa)(k:LV->Prop):qC E (.sr n sz x none none) t H k=evP E x t fun a=>vP (qV H n a) fun m=>vP (zC n sz a 0 m) k:=by
 unfold qC evP
 simp only[qz,y5]
 cases qV H n (E.ev t.get x) with
 |none=>simp only[zB]
 |some m=>
  simp only[zg]
theorem uW(n sz:Nat)(x l:BO)(t:FT)(H:qa)(k:LV->Prop):qC E (.sr n sz x (some l) none) t H k=evP E x t fun a=>evP E l t fun b=>vP (qV H n a) fun m=>vP (qR b) fun j=>vP (zC n sz a j m) k:=by
 unfold qC evP
 simp only[qz,y5]
 cases qV H n (E.ev t.get x) with
 |none=>simp only[zB]
 |some m=>
  simp only[zg]
  cases qR (E.ev t.get l)<;>simp only[zg,zB]
theorem uX(n sz:Nat)(x l:BO)(t:FT)(H:qa)(k:LV->Prop):qC E (.sr n sz x none (some l)) t H k=evP E x t fun a=>evP E l t fun b=>vP (qV H n a) fun _=>vP (qR b) fun j=>vP (zC n sz a 0 j) k:=by
 unfold qC evP
 simp only[qz,y5]
 cases qV H n (E.ev t.get x) with
 |none=>simp only[zB]
 |some m=>
  simp only[zg]
  cases qR (E.ev t.get l)<;>simp only[zg,zB]
theorem uY(n sz:Nat)(x l h:BO)(t:FT)(H:qa)(k:LV->Prop):qC E (.sr n sz x (some l) (some h)) t H k=evP E x t fun a=>evP E l t fun b=>evP E h t fun c=>vP (qV H n a) fun _=>vP (qR b) fun j=>vP (qR c) fun i=>vP (zC n sz a j i) k:=by
 unfold qC evP
 simp only[qz,y5]
 cases qV H n (E.ev t.get x) with
 |none=>simp only[zB]
 |some m=>
  simp only[zg]
  cases qR (E.ev t.get l)<;>simp only[zg,zB]<;>cases qR (E.ev t.get h)<;>simp only[zg,zB]
theorem jn(kk:IntKind)(x:BO)(t:FT)(H:qa)(k:LV->Prop):qC E (.cv kk x) t H k=evP E x t fun a=>vP (match a with|.sc (.int _ n)=>some (LV.sc (.int kk (kk.wrap n)))|_=>none) k:=propext Iff.rfl
theorem jd(ty:TypeId)(x:BO)(t:FT)(H:qa)(k:LV->Prop):qC E (.mi ty x) t H k=evP E x t fun a=>k (.iface ty a):=by
 unfold qC evP;rw[show qz E t.get H (.mi ty x)=some (.iface ty (E.ev t.get x)) from rfl,zg]
theorem je(f:Fn)(a b:List BO)(t:FT)(H:qa)(k:LV->Prop):qC E (.mf f a b) t H k=vX E a t fun u=>vX E b t fun v=>k (.fn f u v):=by
 unfold qC vX;rw[show qz E t.get H (.mf f a b)=some (.fn f (a.map (E.ev t.get)) (b.map (E.ev t.get))) from rfl,zg]
theorem uT(i:Nat)(x:BO)(t:FT)(H:qa)(k:LV->Prop):qC E (.xt i x) t H k=evP E x t fun a=>vP (match a with|.tup vs=>vs[i]?|_=>none) k:=propext Iff.rfl
theorem jo(sz:Nat)(ps:List BO)(t:FT)(H:qa)(k:LV->Prop):qC E (.bs sz ps) t H k=vX E ps t fun vs=>vP (if vs.all (fun v=>v.cells.length==sz&&v.whole) then some (LV.sl vs .full) else none) k:=by
 unfold qC vX
 show vP (if _ then _ else _) k=vP (if _ then _ else _) k
 rw[List.all_map];rfl
theorem jq(zero:List LV)(ps:List (Nat×Nat×BO))(t:FT)(H:qa)(k:LV->Prop):qC E (.bd zero ps) t H k=vX E (ps.map fun p=>p.2.2) t fun vs=>vP (zF zero ((ps.zip vs).map fun q=>(q.1.1,q.1.2.1,q.2))) fun cs=>k (.agg cs):=by
 unfold qC vX
 have:(ps.map fun p=>(p.1,p.2.1,E.ev t.get p.2.2))=(ps.zip ((ps.map fun p=>p.2.2).map (E.ev t.get))).map fun q=>(q.1.1,q.1.2.1,q.2):=by
  induction ps with
  |nil=>rfl
  |cons p ps ih=>simp only[List.map_cons,List.zip_cons_cons,ih]
 show vP ((zF zero (ps.map fun p=>(p.1,p.2.1,E.ev t.get p.2.2))).map .agg) k=_
 rw[this]
 exact ut _ _ _
theorem ja(x:BO)(t:FT)(H:qa)(k:LV->Prop):qC E (.nc x) t H k=evP E x t fun a=>vP (faL 0 a) k:=by
 unfold qC evP;congr 1
theorem jc(mx:Bool)(x y:BO)(t:FT)(H:qa)(k:LV->Prop):qC E (.mn mx x y) t H k=evP E x t fun a=>evP E y t fun b=>vP (match a,b with
  |.sc (.int k a),.sc (.int k' b)=>if k=k' then some (LV.sc (.int k (if mx then (if b > a then b else a) else (if b<a then b else a)))) else none
  |_,_=>none) k:=propext Iff.rfl
def lkL(H:qa)(e:EqK)(ok:Bool)(z x i:LV):Option LV:=if (eqK e i i).isSome then match x with
  |.sc (.map none)=>some (if ok then .tup [z,.bool false] else z)
  |.map o=>match look o H.objs with
   |some (.map es)=>match vM e i es with
    |some (some v)=>some (if ok then .tup [v,.bool true] else v)
    |some none=>some (if ok then .tup [z,.bool false] else z)
    |none=>none
   |some (.um es)=>match wC e i es with
    |some (some v)=>some (if ok then .tup [v,.bool true] else v)
    |some none=>some (if ok then .tup [z,.bool false] else z)
    |none=>none
   |_=>none
  |_=>none
  else none
theorem jg(e:EqK)(ok:Bool)(z x i:BO)(t:FT)(H:qa)(k:LV->Prop):qC E (.lk e ok z x i) t H k=evP E z t fun c=>evP E x t fun a=>evP E i t fun b=>vP (lkL H e ok c a b) k:=propext Iff.rfl
theorem uU(ty:TypeId)(z x:BO)(t:FT)(H:qa)(k:LV->Prop):qC E (.ta ty z x) t H k=evP E z t fun c=>evP E x t fun a=>vP (match a with
  |.iface u v=>some (if u=ty then LV.tup [v,.bool true] else .tup [c,.bool false])
  |.sc .nilIface=>some (.tup [c,.bool false])
  |_=>none) k:=propext Iff.rfl
theorem gb(x:BO)(t:FT)(H:qa)(kv kp:HP):opP E F (.mv x) t H kv kp=qC E (.mv x) t H fun v=>kv v H:=propext Iff.rfl
theorem j6(c a b:BO)(t:FT)(H:qa)(kv kp:HP):opP E F (.pk c a b) t H kv kp=qC E (.pk c a b) t H fun v=>kv v H:=propext Iff.rfl
theorem gu(neg:Bool)(e:EqK)(x y:BO)(t:FT)(H:qa)(kv kp:HP):opP E F (.eq neg e x y) t H kv kp=qC E (.eq neg e x y) t H fun v=>kv v H:=propext Iff.rfl
theorem gC(o:BinOp)(x y:BO)(t:FT)(H:qa)(kv kp:HP):opP E F (.bn o x y) t H kv kp=qC E (.bn o x y) t H fun v=>kv v H:=propext Iff.rfl
theorem j8(x:BO)(t:FT)(H:qa)(kv kp:HP):opP E F (.nt x) t H kv kp=qC E (.nt x) t H fun v=>kv v H:=propext Iff.rfl
theorem gj(n:Option Nat)(x:BO)(t:FT)(H:qa)(kv kp:HP):opP E F (.ld n x) t H kv kp=qC E (.ld n x) t H fun v=>kv v H:=propext Iff.rfl
theorem gt(n:Nat)(x:BO)(t:FT)(H:qa)(kv kp:HP):opP E F (.fa n x) t H kv kp=qC E (.fa n x) t H fun v=>kv v H:=propext Iff.rfl
theorem gq(n:Nat)(m:Option Nat)(x:BO)(t:FT)(H:qa)(kv kp:HP):opP E F (.fd n m x) t H kv kp=qC E (.fd n m x) t H fun v=>kv v H:=propext Iff.rfl
theorem gp(n:Nat)(x i:BO)(t:FT)(H:qa)(kv kp:HP):opP E F (.ia n x i) t H kv kp=qC E (.ia n x i) t H fun v=>kv v H:=propext Iff.rfl
theorem gk(n:Option Nat)(x i:BO)(t:FT)(H:qa)(kv kp:HP):opP E F (.ix n x i) t H kv kp=qC E (.ix n x i) t H fun v=>kv v H:=propext Iff.rfl
theorem gh(n:Nat)(x:BO)(t:FT)(H:qa)(kv kp:HP):opP E F (.ln n x) t H kv kp=qC E (.ln n x) t H fun v=>kv v H:=propext Iff.rfl
theorem j0(n m:Nat)(x:BO)(l h:Option BO)(t:FT)(H:qa)(kv kp:HP):opP E F (.sr n m x l h) t H kv kp=qC E (.sr n m x l h) t H fun v=>kv v H:=propext Iff.rfl
theorem gw(n:IntKind)(x:BO)(t:FT)(H:qa)(kv kp:HP):opP E F (.cv n x) t H kv kp=qC E (.cv n x) t H fun v=>kv v H:=propext Iff.rfl
theorem gf(n:TypeId)(x:BO)(t:FT)(H:qa)(kv kp:HP):opP E F (.mi n x) t H kv kp=qC E (.mi n x) t H fun v=>kv v H:=propext Iff.rfl
theorem gg(f:Fn)(a b:List BO)(t:FT)(H:qa)(kv kp:HP):opP E F (.mf f a b) t H kv kp=qC E (.mf f a b) t H fun v=>kv v H:=propext Iff.rfl
theorem jX(n:Nat)(x:BO)(t:FT)(H:qa)(kv kp:HP):opP E F (.xt n x) t H kv kp=qC E (.xt n x) t H fun v=>kv v H:=propext Iff.rfl
theorem gA(n:Nat)(x:List BO)(t:FT)(H:qa)(kv kp:HP):opP E F (.bs n x) t H kv kp=qC E (.bs n x) t H fun v=>kv v H:=propext Iff.rfl
theorem gD(n:List LV)(x:List (Nat×Nat×BO))(t:FT)(H:qa)(kv kp:HP):opP E F (.bd n x) t H kv kp=qC E (.bd n x) t H fun v=>kv v H:=propext Iff.rfl
theorem j9(x:BO)(t:FT)(H:qa)(kv kp:HP):opP E F (.nc x) t H kv kp=qC E (.nc x) t H fun v=>kv v H:=propext Iff.rfl
theorem gd(m:Bool)(x y:BO)(t:FT)(H:qa)(kv kp:HP):opP E F (.mn m x y) t H kv kp=qC E (.mn m x y) t H fun v=>kv v H:=propext Iff.rfl
theorem gi(e:EqK)(ok:Bool)(z x i:BO)(t:FT)(H:qa)(kv kp:HP):opP E F (.lk e ok z x i) t H kv kp=qC E (.lk e ok z x i) t H fun v=>kv v H:=propext Iff.rfl
theorem jY(n:TypeId)(z x:BO)(t:FT)(H:qa)(kv kp:HP):opP E F (.ta n z x) t H kv kp=qC E (.ta n z x) t H fun v=>kv v H:=propext Iff.rfl
theorem qdy{op:BOp}{t:FT}{H:qa}{k:HP}(h:wR E t.get H op=none):wv E op t H k=eP (uo E t.get H op) k:=by
 unfold wv;rw[h];apply propext
 constructor
 ·rintro(h|⟨_,_,h,_⟩)
  ·exact h
  ·cases h
 ·exact .inl
theorem gG(z:List LV)(t:FT)(H:qa)(kv kp:HP):opP E F (.al z) t H kv kp=kv (.ptr H.next 0) ⟨(H.next,.cells z)::H.objs,H.next+1⟩:=by
 show wv E _ t H kv=_
 rw[qdy rfl];exact up _ _ _
theorem gz(x:BO)(t:FT)(H:qa)(kv kp:HP):opP E F (.bx x) t H kv kp=evP E x t fun a=>(a.whole=true/\kv (.ptr H.next 0) ⟨(H.next,.cells a.cells)::H.objs,H.next+1⟩):=by
 show wv E _ t H kv=_
 rw[qdy rfl]
 unfold evP
 simp only[uo]
 cases h:(E.ev t.get x).whole with
 |true=>rw[if_pos rfl,up];simp only[true_and];rfl
 |false=>
       rw[if_neg (by simp)];apply propext;constructor
       ·rintro⟨_,_,h,_⟩;cases h
       ·rintro⟨h,_⟩;cases h
def stL(H:qa)(n:Nat)(a x:LV):Option qa:=match a with
 |.ptr o off=>match look o H.objs with
  |some (.cells cs)=>if x.cells.length=n/\x.whole/\off+n<=cs.length then some (H.put o (.cells (cs.take off++x.cells++cs.drop (off+n)))) else none
  |some (.arr sz cs)=>if x.cells.length=n/\x.whole/\off+n<=cs.length then some (H.put o (.arr sz (cs.take off++x.cells++cs.drop (off+n)))) else none
  |_=>none
 |_=>none
theorem jZ(n:Nat)(a x:BO)(t:FT)(H:qa)(kv kp:HP):opP E F (.st n a x) t H kv kp=evP E a t fun u=>evP E x t fun v=>vP (stL H n u v) fun H'=>kv .bot H':=by
 show wv E _ t H kv=_
 rw[qdy rfl]
 unfold evP
 have:uo E t.get H (.st n a x)=(stL H n (E.ev t.get a) (E.ev t.get x)).map fun H'=>(LV.bot,H'):=by
  simp only[uo,stL]
  cases E.ev t.get a with
  |ptr o off=>
   simp only
   cases look o H.objs with
   |none=>rfl
   |some ob=>
    cases ob with
    |cells cs=>simp only;split<;>rfl
    |arr sz cs=>simp only;split<;>rfl
    |_=>rfl
  |_=>rfl
 rw[this]
 unfold eP vP
 apply propext
 constructor
 ·rintro⟨v,H',h1,h2⟩
  obtain⟨H'',h3,h4⟩:=Option.map_eq_some_iff.1 h1
  cases h4
  exact⟨_,h3,h2⟩
 ·rintro⟨H',h1,h2⟩
  exact⟨_,_,by rw[h1];rfl,h2⟩
theorem gF(sz:Nat)(a x:BO)(t:FT)(H:qa)(kv kp:HP):opP E F (.ap sz a x) t H kv kp=wv E (.ap sz a x) t H kv:=propext Iff.rfl
def apL(H:qa)(sz:Nat)(a x:LV):Option (LV×qa):=match a,x with
  |.sl es own,.sl xs _=>
   if (es.all fun e=>e.cells.length==sz)&&(xs.all fun e=>e.cells.length==sz) then
    if es.length+xs.length<=2^30/\sz<=2^10/\vd H sz own es.length then
     match own with
     |.tok t=>some (.sl (es++xs) own,H.put t (.tok (es.length+xs.length) sz))
     |_=>some (.sl (es++xs) (.tok H.next),H.alloc (.tok (es.length+xs.length) sz))
    else none
   else none
  |_,_=>none
theorem qU{sz:Nat}{a x:BO}{t:FT}{H:qa}{k:HP}(h:evP E a t fun u=>evP E x t fun v=>eP (apL H sz u v) k):wv E (.ap sz a x) t H k:=.inl h
theorem ge(t:FT)(H:qa)(kv kp:HP):opP E F .mk t H kv kp=kv (.map H.next) ⟨(H.next,.map [])::H.objs,H.next+1⟩:=by
 show wv E _ t H kv=_
 rw[qdy rfl];exact up _ _ _
theorem ga(tb te:TypeId)(t:FT)(H:qa)(kv kp:HP):opP E F (.nb tb te) t H kv kp=kv (.ptr H.next 0) ⟨(H.next,.bld tb te [])::H.objs,H.next+1⟩:=by
 show wv E _ t H kv=_
 rw[qdy rfl];exact up _ _ _
def muL(H:qa)(e:EqK)(m k v:LV):Option qa:=match m with
  |.map o=>match look o H.objs with
   |some (.map es)=>if (eqK e k k).isNone then none else (wg e k v es).map fun es'=>H.put o (.map es')
   |_=>none
  |_=>none
theorem gc(e:EqK)(m i v:BO)(t:FT)(H:qa)(kv kp:HP):opP E F (.mu e m i v) t H kv kp=evP E m t fun a=>evP E i t fun b=>evP E v t fun c=>vP (muL H e a b c) fun H'=>kv .bot H':=by
 show wv E _ t H kv=_
 rw[qdy rfl]
 unfold evP
 have:uo E t.get H (.mu e m i v)=(muL H e (E.ev t.get m) (E.ev t.get i) (E.ev t.get v)).map fun H'=>(LV.bot,H'):=by
  simp only[uo,muL]
  cases E.ev t.get m with
  |map o=>
   simp only
   cases look o H.objs with
   |none=>rfl
   |some ob=>
    cases ob with
    |map es=>
     simp only
     split
     ·rfl
     ·rw[Option.map_map];rfl
    |_=>rfl
  |_=>rfl
 rw[this]
 unfold eP vP
 apply propext
 constructor
 ·rintro⟨v,H',h1,h2⟩
  obtain⟨H'',h3,h4⟩:=Option.map_eq_some_iff.1 h1
  cases h4
  exact⟨_,h3,h2⟩
 ·rintro⟨H',h1,h2⟩
  exact⟨_,_,by rw[h1];rfl,h2⟩
def rgL(H:qa)(x:LV):Option (LV×qa):=match x with
  |.sc (.map none)=>some (.ptr H.next 0,H.alloc (.iter H.next [] none 0))
  |.map o=>match look o H.objs with
   |some (.map es)=>some (.ptr H.next 0,H.alloc (.iter o (List.range es.length) none es.length))
   |_=>none
  |_=>none
theorem j3(x:BO)(t:FT)(H:qa)(kv kp:HP):opP E F (.rg x) t H kv kp=evP E x t fun a=>eP (rgL H a) kv:=by
 show wv E _ t H kv=_
 rw[qdy rfl];rfl
def enL(H:qa)(x:LV):Option LV:=match x with
  |.ptr o 0=>match look o H.objs with
   |some (.iter m _ (some i) n)=>match look m H.objs with
    |some (.map es)=>if es.length=n then (es[i]?).map fun kv=>.tup [kv.1,kv.2] else none
    |_=>none
   |_=>none
  |_=>none
theorem gv(x:BO)(t:FT)(H:qa)(kv kp:HP):opP E F (.en x) t H kv kp=evP E x t fun a=>vP (enL H a) fun v=>kv v H:=propext Iff.rfl
theorem jP(t:FT)(H:qa):wJ E t H []=True:=propext Iff.rfl
theorem jR(d:Nat)(op:BOp)(p:List BI)(t:FT)(H:qa):wJ E t H (⟨some d,none,op⟩::p)=((zE t d fun u=>qC E op t H fun v=>u=v)/\wJ E t H p):=by
 apply propext
 constructor
 ·rintro⟨⟨_,h1,h2⟩,h3⟩;cases h1;exact⟨h2,h3⟩
 ·rintro⟨h2,h3⟩;exact⟨⟨_,rfl,h2⟩,h3⟩
theorem jQ(d j:Nat)(b:Bool)(op:BOp)(p:List BI)(t:FT)(H:qa):wJ E t H (⟨some d,some (j,b),op⟩::p)=((zE t j fun u=>gP b u (zE t d fun u=>qC E op t H fun v=>u=v) True)/\wJ E t H p):=by
 have:(∃d',some d=some d'/\zE t d' fun u=>qC E op t H fun v=>u=v)=(zE t d fun u=>qC E op t H fun v=>u=v):=
  propext ⟨fun⟨_,h1,h2⟩=>(by cases h1;exact h2),fun h=>⟨d,rfl,h⟩⟩
 show (qcw (some (j,b)) t (∃d',some d=some d'/\zE t d' fun u=>qC E op t H fun v=>u=v) True/\_)=_
 rw[this];exact propext Iff.rfl
theorem yu(t:FT)(H:qa)(k:XP):vj E F [] t H k=k .normal t H:=propext Iff.rfl
def uq(E:Env)(F:Fns)(op:BOp)(p:List BI)(t:FT)(H:qa)(kv kp:HP):Prop:=match op with
    |.pn _=>False
    |.nx _=>False
    |.cf f as=>vX E as t fun vs=>cP E F f vs H (fun v H'=>wJ E t H' p/\kv v H') kp
    |.cl x as=>evP E x t fun u=>vX E as t fun vs=>clP E F u vs H (fun v H'=>wJ E t H' p/\kv v H') kp
    |.al _|.bx _|.st _ _ _|.ap _ _ _|.mk|.nb _ _|.mu _ _ _ _|.ms _ _|.rg _=>opP E F op t H (fun v H'=>wJ E t H' p/\kv v H') kp
    |op=>opP E F op t H kv kp
theorem yx(d:Nat)(op:BOp)(p:List BI)(l:List (BI×List BI))(t:FT)(H:qa)(k:XP):
  vj E F ((⟨some d,none,op⟩,p)::l) t H k=uq E F op p t H (fun v H'=>vE t d v fun t'=>vj E F l t' H' k) (fun v H'=>k (.pan v) .nil H'):=by
 cases op<;>exact propext Iff.rfl
theorem yt(op:BOp)(p:List BI)(l:List (BI×List BI))(t:FT)(H:qa)(k:XP):
  vj E F ((⟨none,none,op⟩,p)::l) t H k=uq E F op p t H (fun _ H'=>vj E F l t H' k) (fun v H'=>k (.pan v) .nil H'):=by
 cases op<;>exact propext Iff.rfl
theorem yv(d j:Nat)(op:BOp)(p:List BI)(l:List (BI×List BI))(t:FT)(H:qa)(k:XP):
  vj E F ((⟨some d,some (j,true),op⟩,p)::l) t H k=zE t j fun u=>gP true u (uq E F op p t H (fun v H'=>vE t d v fun t'=>vj E F l t' H' k) (fun v H'=>k (.pan v) .nil H')) (vE t d (.tup []) fun t'=>vj E F l t' H k):=by
 cases op<;>exact propext Iff.rfl
theorem yw(d j:Nat)(op:BOp)(p:List BI)(l:List (BI×List BI))(t:FT)(H:qa)(k:XP):
  vj E F ((⟨some d,some (j,false),op⟩,p)::l) t H k=zE t j fun u=>gP false u (uq E F op p t H (fun v H'=>vE t d v fun t'=>vj E F l t' H' k) (fun v H'=>k (.pan v) .nil H')) (vE t d (.tup []) fun t'=>vj E F l t' H k):=by
 cases op<;>exact propext Iff.rfl
theorem qp(i:Nat)(o:qc)(l:List (Nat×qc)):look i ((i,o)::l)=some o:=by simp[look]
theorem qe{i j:Nat}(h:i≠j)(o:qc)(l:List (Nat×qc)):look i ((j,o)::l)=look i l:=by simp[look,h]
theorem uC(i n:Nat)(o o':qc)(l:List (Nat×qc)):qa.put ⟨(i,o)::l,n⟩ i o'=⟨(i,o')::l,n⟩:=by simp[qa.put,qx]
theorem uw(i:Nat)(o o':qc)(l:List (Nat×qc)):qx i o' ((i,o)::l)=(i,o')::l:=by simp[qx]
theorem ux{i j:Nat}(h:i≠j)(o o':qc)(l:List (Nat×qc)):qx i o' ((j,o)::l)=(j,o)::qx i o' l:=by simp[qx,h]
theorem jM(H:qa)(i:Nat)(o:qc):H.put i o=⟨qx i o H.objs,H.next⟩:=rfl
theorem uL(kk:IntKind)(n:Nat):qR (.sc (.int kk (n:Int)))=some n:=by simp[qR]
end
end Go.Abs
