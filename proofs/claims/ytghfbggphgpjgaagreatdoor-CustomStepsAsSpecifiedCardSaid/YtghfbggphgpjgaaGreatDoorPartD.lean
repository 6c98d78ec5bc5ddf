/- Part of the proof that the law CustomStepsAsSpecified returns true for every input. Conditions: none. -/
import Derived.Test.YtghfbggphgpjgaaGreatDoorPartC
import Derived.Laws.AppendOwn
namespace Go.Abs
open Go
def FT.one(k:Nat)(v:LV):FT:=if k=0 then .nd v .nil .nil else if k % 2=1 then .nd .bot (FT.one (k / 2) v) .nil else .nd .bot .nil (FT.one (k / 2 - 1) v)
termination_by k
decreasing_by all_goals omega
def FT.set:FT->Nat->LV->FT
 |.nil,k,v=>FT.one k v
 |.nd u l r,k,v=>if k=0 then .nd v l r else if k % 2=1 then .nd u (FT.set l (k / 2) v) r else .nd u l (FT.set r (k / 2 - 1) v)
theorem FT.get_nil(k:Nat):FT.nil.get k=.bot:=rfl
theorem FT.one_get(k:Nat)(v:LV):(FT.one k v).get=upd (fun _=>.bot) k v:=by
 induction k using Nat.strongRecOn with
 |ind k ih=>
  funext j
  rw[FT.one]
  split
  ·rename_i h;subst h
   rw[FT.get_node];simp only[upd,FT.get_nil]
   split
   ·rfl
   ·split<;>rfl
  ·rename_i h0
   split
   ·rename_i h1
    rw[FT.get_node,ih (k / 2) (by omega)]
    simp only[upd,FT.get_nil]
    by_cases hj:j=k
    ·subst hj;simp[h0,h1]
    ·rw[if_neg hj]
     by_cases hj0:j=0
     ·simp[hj0]
     ·by_cases hj1:j % 2=1
      ·have:j / 2≠k / 2:=by omega
       simp[hj0,hj1,this]
      ·simp[hj0,hj1]
   ·rename_i h1
    rw[FT.get_node,ih (k / 2 - 1) (by omega)]
    simp only[upd,FT.get_nil]
    by_cases hj:j=k
    ·subst hj;simp[h0,h1]
    ·rw[if_neg hj]
     by_cases hj0:j=0
     ·simp[hj0]
     ·by_cases hj1:j % 2=1
      ·simp[hj0,hj1]
      ·have:j / 2 - 1≠k / 2 - 1:=by omega
       simp[hj0,hj1,this]
theorem FT.set_get:∀(t:FT)(k:Nat)(v:LV),(t.set k v).get=upd t.get k v
 |.nil,k,v=>by rw[FT.set,FT.one_get];rfl
 |.nd u l r,k,v=>by
  funext j
  rw[FT.set]
  split
  ·rename_i h;subst h
   rw[FT.get_node];simp only[upd,FT.get_node]
   by_cases hj:j=0<;>simp[hj]
  ·rename_i h0
   split
   ·rename_i h1
    rw[FT.get_node,FT.set_get l]
    simp only[upd,FT.get_node]
    by_cases hj:j=k
    ·subst hj;simp[h0,h1]
    ·rw[if_neg hj]
     by_cases hj0:j=0
     ·simp[hj0]
     ·by_cases hj1:j % 2=1
      ·have:j / 2≠k / 2:=by omega
       simp[hj0,hj1,this]
      ·simp[hj0,hj1]
   ·rename_i h1
    rw[FT.get_node,FT.set_get r]
    simp only[upd,FT.get_node]
    by_cases hj:j=k
    ·subst hj;simp[h0,h1]
    ·rw[if_neg hj]
     by_cases hj0:j=0
     ·simp[hj0]
     ·by_cases hj1:j % 2=1
      ·simp[hj0,hj1]
      ·have:j / 2 - 1≠k / 2 - 1:=by omega
       simp[hj0,hj1,this]
def FT.Le:FT->FT->Prop
 |.nil,_=>True
 |.nd v l r,.nd u l' r'=>Wk u v/\FT.Le l l'/\FT.Le r r'
 |.nd v l r,.nil=>v=.bot/\FT.Le l .nil/\FT.Le r .nil
theorem FT.Le.fwk:∀{s t:FT},FT.Le s t->FWk t.get s.get
 |.nil,t,_=>fun k=>.inr (.inr rfl)
 |.nd v l r,.nd u l' r',h=>fun k=>by
  rw[FT.get_node,FT.get_node]
  split
  ·exact h.1
  ·split
   ·exact FT.Le.fwk h.2.1 _
   ·exact FT.Le.fwk h.2.2 _
 |.nd v l r,.nil,h=>fun k=>by
  rw[FT.get_node,FT.get_nil]
  split
  ·exact .inl h.1
  ·split
   ·exact FT.Le.fwk h.2.1 _
   ·exact FT.Le.fwk h.2.2 _
def zW(t:FT)(n:Nat)(k:LV->Prop):Prop:=k (t.get n)
def vT(t:FT)(n:Nat)(v:LV)(k:FT->Prop):Prop:=k (t.set n v)
def qeE(n:Nat)(v:LV)(k:FT->Prop):Prop:=k (FT.one n v)
theorem yC(n:Nat)(k:LV->Prop):zW .nil n k=k .bot:=rfl
theorem yB(v:LV)(l r:FT)(n:Nat)(k:LV->Prop):zW (.nd v l r) n k=if n=0 then k v else if n % 2=1 then zW l (n / 2) k else zW r (n / 2 - 1) k:=by
 unfold zW;rw[FT.get_node];split
 ·rfl
 ·split<;>rfl
theorem jT(n:Nat)(v:LV)(k:FT->Prop):vT .nil n v k=qeE n v k:=by unfold vT qeE;rw[FT.set]
theorem jS(u:LV)(l r:FT)(n:Nat)(v:LV)(k:FT->Prop):vT (.nd u l r) n v k=if n=0 then k (.nd v l r) else if n % 2=1 then vT l (n / 2) v (fun l'=>k (.nd u l' r)) else vT r (n / 2 - 1) v (fun r'=>k (.nd u l r')):=by
 unfold vT;rw[FT.set];split
 ·rfl
 ·split<;>rfl
theorem yf(n:Nat)(v:LV)(k:FT->Prop):qeE n v k=if n=0 then k (.nd v .nil .nil) else if n % 2=1 then qeE (n / 2) v (fun l'=>k (.nd .bot l' .nil)) else qeE (n / 2 - 1) v (fun r'=>k (.nd .bot .nil r')):=by
 unfold qeE;rw[FT.one];split
 ·rfl
 ·split<;>rfl
def Tie{α:Sort _}(_:α):Type:=Unit
abbrev XP:=qaU->FT->qa->Prop
abbrev HP:=LV->qa->Prop
def XSP(k:XP):Res->Prop:=fun r=>∃e t H,r=.code e t.get [] H/\H.Ok/\k e t H
def CSP(kv kp:HP):Res->Prop:=fun r=>(∃v H,r=.ret v H/\H.Ok/\kv v H)\/∃v H,r=.pan v H/\H.Ok/\kp v H
def cP(E:Env)(F:Fns)(f:FuncId)(args:List LV)(H:qa)(kv kp:HP)(_:Tie (H,kv,kp):=()):Prop:=H.Ok->Out E F (.call f args H) (CSP kv kp)
def lP(E:Env)(F:Fns)(c:qr)(t:FT)(H:qa)(k:XP)(_:Tie (c,t,k):=()):Prop:=H.Ok->Out E F (.code c t.get [] H) (XSP k)
def vP{α:Type}(o:Option α)(k:α->Prop)(_:Tie k:=()):Prop:=∃v,o=some v/\k v
def eP(o:Option (LV×qa))(k:HP)(_:Tie k:=()):Prop:=∃v H,o=some (v,H)/\k v H
def bP(v:LV)(A B:Prop)(_:Tie (A,B):=()):Prop:=(v=.bool true/\A)\/(v=.bool false/\B)
def gP(w:Bool)(v:LV)(yes no:Prop)(_:Tie (yes,no):=()):Prop:=(v=.sc (.bool w)/\yes)\/(v=.sc (.bool (!w))/\no)\/(v=.tup []/\no)
def evP(E:Env)(x:BO)(t:FT)(k:LV->Prop):Prop:=k (E.ev t.get x)
def wh(E:Env)(xs:List BO)(t:FT)(k:List LV->Prop):Prop:=k (xs.map (E.ev t.get))
def clP(E:Env)(F:Fns)(x:LV)(args:List LV)(H:qa)(kv kp:HP)(_:Tie (H,kv,kp):=()):Prop:=∃f first cap,x=.fn (.func f) first cap/\cP E F f (first++args++cap) H kv kp
def pnP(x:LV)(k:LV->Prop):Prop:=∃ty v,x=.iface ty v/\k (.iface ty v)
def qM(E:Env)(op:BOp)(t:FT)(H:qa)(k:LV->Prop):Prop:=vP (qE E t.get H op) k
def wi(E:Env)(op:BOp)(t:FT)(H:qa)(k:HP):Prop:=eP (uo E t.get H op) k\/eP (wX E t.get H op) k
def nxP(E:Env)(x:LV)(H:qa)(kv:HP)(_:Tie kv:=()):Prop:=
 ∃o m left k n,x=.ptr o 0/\look o H.objs=some (.iter m left k n) /\
  ((left=[]/\(m=o\/∃es,look m H.objs=some (.map es)/\es.length=n)/\kv (.tup [.bool false]) H) \/
   (left≠[]/\∃es,look m H.objs=some (.map es)/\es.length=n/\∀j q e,left[j]? = some q->es[q]? = some e->kv (.tup [.bool true,e.1,e.2]) (H.put o (.iter m (left.eraseIdx j) (some q) n))))
def opP(E:Env)(F:Fns)(op:BOp)(t:FT)(H:qa)(kv kp:HP):Prop:=
 match op with
 |.cf f as=>wh E as t fun vs=>cP E F f vs H kv kp
 |.cl x as=>evP E x t fun v=>wh E as t fun vs=>clP E F v vs H kv kp
 |.pn x=>evP E x t fun v=>pnP v fun u=>kp u H
 |.nx x=>evP E x t fun v=>nxP E v H kv
 |.al _|.bx _|.st _ _ _|.ap _ _ _|.mk|.nb _ _|.mu _ _ _ _|.ms _ _|.rg _=>wi E op t H kv
 |op=>qM E op t H fun v=>kv v H
def qak(d:Option Nat)(t:FT)(v:LV)(k:FT->Prop):Prop:=match d with
 |none=>k t
 |some d=>vT t d v k
def qcQ(g:Option (Nat×Bool))(t:FT)(yes no:Prop):Prop:=match g with
 |none=>yes
 |some (j,w)=>zW t j fun v=>gP w v yes no
def vW(E:Env)(F:Fns):List BI->FT->qa->XP->Prop
 |[],t,H,k=>k .normal t H
 |i::l,t,H,k=>qcQ i.g t (opP E F i.op t H (fun v H'=>qak i.d t v fun t'=>vW E F l t' H' k) (fun v H'=>k (.pan v) t H')) (qak i.d t (.tup []) fun t'=>vW E F l t' H k)
def wR(E:Env)(t:FT)(H:qa):List BI->Prop
 |[]=>True
 |b::p=>qcQ b.g t (∃d,b.d=some d/\zW t d fun u=>qM E b.op t H fun v=>u=v) True/\wR E t H p
def yX(E:Env)(F:Fns):List (BI×List BI)->FT->qa->XP->Prop
 |[],t,H,k=>k .normal t H
 |ip::l,t,H,k=>qcQ ip.1.g t
   (match ip.1.op with
    |.pn _=>False
    |.nx _=>False
    |.cf f as=>wh E as t fun vs=>cP E F f vs H (fun v H'=>wR E t H' ip.2/\qak ip.1.d t v fun t'=>yX E F l t' H' k) (fun v H'=>k (.pan v) .nil H')
    |.cl x as=>evP E x t fun u=>wh E as t fun vs=>clP E F u vs H (fun v H'=>wR E t H' ip.2/\qak ip.1.d t v fun t'=>yX E F l t' H' k) (fun v H'=>k (.pan v) .nil H')
    |.al _|.bx _|.st _ _ _|.ap _ _ _|.mk|.nb _ _|.mu _ _ _ _|.ms _ _|.rg _=>wi E ip.1.op t H fun v H'=>wR E t H' ip.2/\qak ip.1.d t v fun t'=>yX E F l t' H' k
    |op=>qM E op t H fun v=>qak ip.1.d t v fun t'=>yX E F l t' H k)
   (qak ip.1.d t (.tup []) fun t'=>yX E F l t' H k)
def qdz(kb:FT->qa->Prop)(k:XP):XP:=fun e t H=>match e with
 |.normal=>kb t H
 |.ret=>k .ret t H
 |.exit n=>k (.exit n) t H
 |.pan v=>k (.pan v) t H
def qdh(id:Nat)(k:XP):XP:=fun e t H=>match e with
 |.normal=>k .normal t H
 |.ret=>k .ret t H
 |.exit n=>if n=id then k .normal t H else k (.exit n) t H
 |.pan v=>k (.pan v) t H
def uP(E:Env)(F:Fns):qr->FT->qa->XP->Prop
 |.skip,t,H,k=>k .normal t H
 |.ops l,t,H,k=>vW E F l t H k
 |.drw l,t,H,k=>yX E F l t H k
 |.seq a b,t,H,k=>uP E F a t H (qdz (fun t' H'=>uP E F b t' H' k) k)
 |.cond c a b,t,H,k=>evP E c t fun v=>bP v (uP E F a t H k) (uP E F b t H k)
 |.blk id c,t,H,k=>uP E F c t H (qdh id k)
 |.loop c,t,H,k=>lP E F (.loop c) t H k
 |.exit id,t,H,k=>k (.exit id) t H
 |.ret,t,H,k=>k .ret t H
 |_,_,_,_=>False
section
variable{E:Env}{F:Fns}
theorem qbX{d:Option Nat}{t:FT}{v:LV}{k:FT->Prop}(h:qak d t v k):∃t',k t'/\t'.get=uj t.get d v:=by
 cases d with
 |none=>exact⟨t,h,rfl⟩
 |some d=>exact⟨_,h,FT.set_get t d v⟩
theorem qja{g:Option (Nat×Bool)}{t:FT}{yes no:Prop}(h:qcQ g t yes no):(zl t.get g=some true/\yes)\/(zl t.get g=some false/\no):=by
 unfold qcQ at h
 split at h
 ·exact .inl ⟨rfl,h⟩
 ·rename_i j w
  unfold zW at h
  rcases h with⟨h1,h2⟩|⟨h1,h2⟩|⟨h1,h2⟩
  ·exact .inl ⟨by simp[zl,h1],h2⟩
  ·exact .inr ⟨by cases w<;>simp[zl,h1],h2⟩
  ·exact .inr ⟨by simp[zl,h1],h2⟩
theorem qqH{op:BOp}{t:FT}{H:qa}{k:HP}(h:wi E op t H k):∃v H',qap E t.get H op v H'/\k v H':=by
 rcases h with⟨v,H',h1,h2⟩|⟨v,H',h1,h2⟩
 ·exact⟨v,H',.inl h1,h2⟩
 ·exact⟨v,H',.inr h1,h2⟩
theorem qkm{t:FT}{H:qa}:∀{p:List BI},wR E t H p->qdn E t.get H p
 |[],_=>fun b hb=>by cases hb
 |a::p,h=>fun b hb hw=>by
  rcases List.mem_cons.1 hb with rfl|hb
  ·rcases qja h.1 with⟨h1,d,h2,v,h3,h4⟩|⟨h1,_⟩
   ·exact⟨d,h2,by rw[h3,<-h4]⟩
   ·rw[hw]at h1;cases h1
  ·exact qkm h.2 b hb hw
theorem qdH:∀(l:List BI)(t:FT)(H:qa)(k:XP),H.Ok->vW E F l t H k->Out E F (.code (.ops l) t.get [] H) (XSP k)
 |[],t,H,k,hH,h=>.nil ⟨.normal,t,H,rfl,hH,h⟩
 |i::l,t,H,k,hH,h=>by
  rcases qja (show qcQ i.g t _ _ from h) with⟨hw,h⟩|⟨hw,h⟩
  ·have call:∀(f:FuncId)(args:List LV),vF E t.get i.op=some (f,args)->cP E F f args H (fun v H'=>qak i.d t v fun t'=>vW E F l t' H' k) (fun v H'=>k (.pan v) t H') ->
     Out E F (.code (.ops (i::l)) t.get [] H) (XSP k):=by
    intro f args hc hh
    refine .call hw hc (hh hH) (fun v H' hT=>?_) (fun v H' hT=>?_)
    ·rcases hT with⟨v',H'',he,hok,hk⟩|⟨v',H'',he,hok,hk⟩<;>cases he
     obtain⟨t',h1,h2⟩:=qbX hk
     rw[<-h2];exact qdH l t' _ k hok h1
    ·rcases hT with⟨v',H'',he,hok,hk⟩|⟨v',H'',he,hok,hk⟩<;>cases he
     exact⟨.pan v,t,H',rfl,hok,hk⟩
   have eff:wi E i.op t H (fun v H'=>qak i.d t v fun t'=>vW E F l t' H' k)->Out E F (.code (.ops (i::l)) t.get [] H) (XSP k):=by
    intro hh
    obtain⟨v,H',h1,h2⟩:=qqH hh
    obtain⟨t',h3,h4⟩:=qbX h2
    exact .eff hw h1 (by rw[<-h4];exact qdH l t' H' k (qiy hH h1) h3)
   have val:qM E i.op t H (fun v=>qak i.d t v fun t'=>vW E F l t' H k)->Out E F (.code (.ops (i::l)) t.get [] H) (XSP k):=by
    intro ⟨v,h1,h2⟩
    obtain⟨t',h3,h4⟩:=qbX h2
    exact .val hw h1 (by rw[<-h4];exact qdH l t' H k hH h3)
   revert h
   generalize ho:i.op=op
   intro h
   rw[ho]at call eff val
   cases op with
   |cf f as=>exact call f _ rfl h
   |cl x as=>
    obtain⟨f,first,cap,h1,h2⟩:=h
    exact call f _ (by simp only[vF,h1];rfl) h2
   |pn x=>
    obtain⟨ty,v,h1,h2⟩:=h
    exact .pan hw ho h1 ⟨.pan _,t,H,by rw[h1],hH,h2⟩
   |nx x=>
    obtain⟨o,m,left,kk,n,h1,h2,h3⟩:=h
    rcases h3 with⟨rfl,h4,h5⟩|⟨hne,es,h4,h5,h6⟩
    ·obtain⟨t',h7,h8⟩:=qbX h5
     exact .next_done hw ho h1 h2 h4 (by rw[<-h8];exact qdH l t' H k hH h7)
    ·refine .next_some hw ho h1 h2 hne h4 h5 (fun j q kv hj hq=>?_)
     obtain⟨t',h7,h8⟩:=qbX (h6 j q kv hj hq)
     rw[<-h8];exact qdH l t' _ k (qx.put hH) h7
   |al _=>exact eff h
   |bx _=>exact eff h
   |st _ _ _=>exact eff h
   |ap _ _ _=>exact eff h
   |mk=>exact eff h
   |nb _ _=>exact eff h
   |mu _ _ _ _=>exact eff h
   |ms _ _=>exact eff h
   |rg _=>exact eff h
   |_=>exact val h
  ·obtain⟨t',h1,h2⟩:=qbX h
   exact .pass hw (by rw[<-h2];exact qdH l t' H k hH h1)
theorem qgy:∀(l:List (BI×List BI))(t:FT)(H:qa)(k:XP),H.Ok->yX E F l t H k->Out E F (.code (.drw l) t.get [] H) (XSP k)
 |[],t,H,k,hH,h=>.drw_nil ⟨.normal,t,H,rfl,hH,h⟩
 |(i,p)::l,t,H,k,hH,h=>by
  rcases qja (show qcQ i.g t _ _ from h) with⟨hw,h⟩|⟨hw,h⟩
  ·have call:∀(f:FuncId)(args:List LV),vF E t.get i.op=some (f,args)->cP E F f args H (fun v H'=>wR E t H' p/\qak i.d t v fun t'=>yX E F l t' H' k) (fun v H'=>k (.pan v) .nil H') ->
     Out E F (.code (.drw ((i,p)::l)) t.get [] H) (XSP k):=by
    intro f args hc hh
    refine .drw_call hw hc (hh hH) (fun v H' hT=>?_) (fun v H' hT=>?_) (fun v H' hT=>?_)
    ·rcases hT with⟨v',H'',he,hok,hk⟩|⟨v',H'',he,hok,hk⟩<;>cases he
     exact qkm hk.1
    ·rcases hT with⟨v',H'',he,hok,hk⟩|⟨v',H'',he,hok,hk⟩<;>cases he
     obtain⟨t',h1,h2⟩:=qbX hk.2
     rw[<-h2];exact qgy l t' _ k hok h1
    ·rcases hT with⟨v',H'',he,hok,hk⟩|⟨v',H'',he,hok,hk⟩<;>cases he
     exact⟨.pan v,.nil,H',rfl,hok,hk⟩
   have eff:wi E i.op t H (fun v H'=>wR E t H' p/\qak i.d t v fun t'=>yX E F l t' H' k)->Out E F (.code (.drw ((i,p)::l)) t.get [] H) (XSP k):=by
    intro hh
    obtain⟨v,H',h1,hp,h2⟩:=qqH hh
    obtain⟨t',h3,h4⟩:=qbX h2
    exact .drw_eff hw h1 (qkm hp) (by rw[<-h4];exact qgy l t' H' k (qiy hH h1) h3)
   have val:qM E i.op t H (fun v=>qak i.d t v fun t'=>yX E F l t' H k)->Out E F (.code (.drw ((i,p)::l)) t.get [] H) (XSP k):=by
    intro ⟨v,h1,h2⟩
    obtain⟨t',h3,h4⟩:=qbX h2
    exact .drw_val hw h1 (by rw[<-h4];exact qgy l t' H k hH h3)
   revert h
   simp only
   generalize ho:i.op=op
   intro h
   rw[ho]at call eff val
   cases op with
   |cf f as=>exact call f _ rfl h
   |cl x as=>
    obtain⟨f,first,cap,h1,h2⟩:=h
    exact call f _ (by simp only[vF,h1];rfl) h2
   |pn x=>exact h.elim
   |nx x=>exact h.elim
   |al _=>exact eff h
   |bx _=>exact eff h
   |st _ _ _=>exact eff h
   |ap _ _ _=>exact eff h
   |mk=>exact eff h
   |nb _ _=>exact eff h
   |mu _ _ _ _=>exact eff h
   |ms _ _=>exact eff h
   |rg _=>exact eff h
   |_=>exact val h
  ·obtain⟨t',h1,h2⟩:=qbX h
   exact .drw_pass hw (by rw[<-h2];exact qgy l t' H k hH h1)
theorem qbv:∀(c:qr)(t:FT)(H:qa)(k:XP),H.Ok->uP E F c t H k->Out E F (.code c t.get [] H) (XSP k)
 |.skip,t,H,k,hH,h=>.skip ⟨.normal,t,H,rfl,hH,h⟩
 |.ops l,t,H,k,hH,h=>qdH l t H k hH h
 |.drw l,t,H,k,hH,h=>qgy l t H k hH h
 |.seq a b,t,H,k,hH,h=>by
  refine .seq (qbv a t H _ hH h) (fun fr df H' hT=>?_) (fun e fr df H' hT hne=>?_)
  ·obtain⟨e,t',H'',he,hok,hk⟩:=hT
   cases he
   exact qbv b t' H' k hok hk
  ·obtain⟨e',t',H'',he,hok,hk⟩:=hT
   cases he
   cases e with
   |normal=>exact absurd rfl hne
   |exit n=>exact⟨_,t',H',rfl,hok,hk⟩
   |ret=>exact⟨_,t',H',rfl,hok,hk⟩
   |pan v=>exact⟨_,t',H',rfl,hok,hk⟩
 |.cond c a b,t,H,k,hH,h=>by
  rcases (show bP (E.ev t.get c) _ _ from h) with⟨h1,h2⟩|⟨h1,h2⟩
  ·exact .cond_t h1 (qbv a t H k hH h2)
  ·exact .cond_f h1 (qbv b t H k hH h2)
 |.blk id c,t,H,k,hH,h=>by
  refine .blk (qbv c t H _ hH h) (fun fr df H' hT=>?_) (fun fr df H' hT=>?_) (fun e fr df H' hT hne hid=>?_)
  ·obtain⟨e,t',H'',he,hok,hk⟩:=hT
   cases he
   exact⟨_,t',H',rfl,hok,hk⟩
  ·obtain⟨e,t',H'',he,hok,hk⟩:=hT
   cases he
   exact⟨_,t',H',rfl,hok,by simpa [qdh] using hk⟩
  ·obtain⟨e',t',H'',he,hok,hk⟩:=hT
   cases he
   cases e with
   |normal=>exact absurd rfl hne
   |exit j=>exact⟨_,t',H',rfl,hok,by
     have:j≠id:=fun e=>hid (by rw[e])
     simpa [qdh,this] using hk⟩
   |ret=>exact⟨_,t',H',rfl,hok,hk⟩
   |pan v=>exact⟨_,t',H',rfl,hok,hk⟩
 |.loop c,t,H,k,hH,h=>h hH
 |.exit id,t,H,k,hH,h=>.exit ⟨.exit id,t,H,rfl,hH,h⟩
 |.ret,t,H,k,hH,h=>.ret ⟨.ret,t,H,rfl,hH,h⟩
 |.rf _ _ _ _,t,H,k,hH,h=>h.elim
 |.bad,t,H,k,hH,h=>h.elim
def qdJ(again:FT->qa->Prop)(k:XP):XP:=fun e t H=>match e with
 |.normal=>again t H
 |.ret=>k .ret t H
 |.exit n=>k (.exit n) t H
 |.pan v=>k (.pan v) t H
theorem ur{c:qr}{t:FT}{H:qa}{k:XP}(h:uP E F c t H k):lP E F c t H k:=fun hH=>qbv c t H k hH h
theorem vA{c:qr}{t t':FT}{H H':qa}{k:XP}(hc:∀l,c≠.drw l)(ht:FT.Le t' t)(hh:HWk H H')(hok:H.Ok->H'.Ok)(h:lP E F c t' H' k):lP E F c t H k:=
 fun hH=>.weak hc ht.fwk hh (h (hok hH))
theorem HWk.refl(H:qa):HWk H H:=⟨Nat.le_refl _,fun _ _ h=>h⟩
theorem qwZ{σ:Type}{c:qr}{k:XP}(fr:σ->FT)(hp:σ->qa)(m:σ->Nat)(I:σ->Prop)
  (h:∀s,I s->(hp s).Ok->uP E F c (fr s) (hp s) (qdJ (fun t' H'=>∃s',m s'<m s/\I s'/\FT.Le (fr s') t'/\HWk H' (hp s')/\(H'.Ok->(hp s').Ok)) k)):
  ∀s,I s->lP E F (.loop c) (fr s) (hp s) k:=by
 intro s
 induction hn:m s using Nat.strongRecOn generalizing s with
 |ind n ih=>
  intro hI hH
  refine .loop (qbv c (fr s) (hp s) _ hH (h s hI hH)) (fun fr' df H' hT=>?_) (fun e fr' df H' hT hne=>?_)
  ·obtain⟨e,t',H'',he,hok,hk⟩:=hT
   cases he
   obtain⟨s',h1,h2,h3,h4,h5⟩:=hk
   exact .weak (fun l=>(by simp)) h3.fwk h4 (ih (m s') (hn▸h1) s' rfl h2 (h5 hok))
  ·obtain⟨e',t',H'',he,hok,hk⟩:=hT
   cases he
   cases e with
   |normal=>exact absurd rfl hne
   |exit n=>exact⟨_,t',H',rfl,hok,hk⟩
   |ret=>exact⟨_,t',H',rfl,hok,hk⟩
   |pan v=>exact⟨_,t',H',rfl,hok,hk⟩
theorem qaJ{c:qr}{t:FT}{H:qa}{k:XP}(h:uP E F c t H (qdJ (fun t' H'=>lP E F (.loop c) t' H' k) k)):lP E F (.loop c) t H k:=by
 intro hH
 refine .loop (qbv c t H _ hH h) (fun fr' df H' hT=>?_) (fun e fr' df H' hT hne=>?_)
 ·obtain⟨e,t',H'',he,hok,hk⟩:=hT
  cases he
  exact hk hok
 ·obtain⟨e',t',H'',he,hok,hk⟩:=hT
  cases he
  cases e with
  |normal=>exact absurd rfl hne
  |exit n=>exact⟨_,t',H',rfl,hok,hk⟩
  |ret=>exact⟨_,t',H',rfl,hok,hk⟩
  |pan v=>exact⟨_,t',H',rfl,hok,hk⟩
theorem qB{σ:Type}{c:qr}{k:XP}(fr:σ->FT)(hp:σ->qa)(m:σ->Nat)(I:σ->Prop)(s:σ){t:FT}{H:qa}
  (hI:I s) (ht:FT.Le (fr s) t) (hh:HWk H (hp s)/\(H.Ok->(hp s).Ok))
  (h:∀s,I s->(hp s).Ok->uP E F c (fr s) (hp s) (qdJ (fun t' H'=>∃s',m s'<m s/\I s'/\FT.Le (fr s') t'/\HWk H' (hp s')/\(H'.Ok->(hp s').Ok)) k)):
  lP E F (.loop c) t H k:=
 vA (fun l=>(by simp)) ht hh.1 hh.2 (qwZ fr hp m I h s hI)
def qdk:List LV->Nat->FT->(FT->Prop)->Prop
 |[],_,t,k=>k t
 |v::l,n,t,k=>vT t n v fun t'=>qdk l (n+1) t' k
theorem qgN:∀{l:List LV}{n:Nat}{t:FT}{k:FT->Prop},qdk l n t k->∃t',k t'/\∀j,t'.get j=if n<=j/\j<n+l.length then l.getD (j - n) .bot else t.get j
 |[],n,t,k,h=>⟨t,h,fun j=>by rw[if_neg (by simp only[List.length_nil];omega)]⟩
 |v::l,n,t,k,h=>by
  obtain⟨t2,h3,h4⟩:=qgN (l:=l) (show qdk l (n+1) (t.set n v) k from h)
  refine⟨t2,h3,fun j=>?_⟩
  rw[h4 j,FT.set_get]
  simp only[upd,List.length_cons]
  by_cases hj:j=n
  ·subst hj
   rw[if_neg (by omega),if_pos rfl,if_pos (by omega)]
   simp
  ·by_cases hin:n+1<=j/\j<n+1+l.length
   ·rw[if_pos (by omega),if_pos (by omega)]
    obtain⟨m,hm⟩:∃m,j - n=m+1:=⟨j - n - 1,by omega⟩
    rw[hm,show j - (n+1)=m by omega]
    rfl
   ·rw[if_neg (by omega),if_neg hj,if_neg (by omega)]
def vU(E:Env)(res:List qcO)(t:FT)(H:qa)(k:LV->Prop):Prop:=vP (qaE H t.get res) k
def qeW(E:Env)(b:BFn)(kv kp:HP):XP:=fun e t H=>match e with
 |.normal=>vU E b.res t H fun v=>kv v H
 |.ret=>vU E b.res t H fun v=>kv v H
 |.pan v=>kp v H
 |.exit _=>False
def fnP(E:Env)(F:Fns)(b:BFn)(args:List LV)(H:qa)(kv kp:HP):Prop:=args.length<=b.n/\qdk args 0 .nil fun t=>uP E F b.body t H (qeW E b kv kp)
theorem zX{b:BFn}{f:FuncId}{args:List LV}{H:qa}{kv kp:HP}(hf:F.fn f b)
  (h:H.Ok->fnP E F b args H (fun v H'=>∃H'',HWk H' H''/\(H'.Ok->H''.Ok)/\kv v H'') kp):cP E F f args H kv kp:=by
 intro hH
 obtain⟨hn,h⟩:=h hH
 obtain⟨t,h1,h2⟩:=qgN h
 have ht:t.get=zz args:=by
  funext j
  rw[h2 j]
  simp only[zz]
  by_cases hj:j<args.length
  ·rw[if_pos (by omega)];simp
  ·rw[if_neg (by omega)]
   have:args[j]? = none:=List.getElem?_eq_none (by omega)
   simp[List.getD_eq_getElem?_getD,this,FT.get_nil]
 have hb:=qbv b.body t H _ hH h1
 rw[ht]at hb
 refine .enter hf hn hb (fun fr df H' hT=>?_) (fun v fr df H' hT=>?_) (fun n fr df H' hT=>?_)
 ·have:∃(t':FT),fr=t'.get/\df=[]/\H'.Ok/\vU E b.res t' H' fun v=>∃H'',HWk H' H''/\(H'.Ok->H''.Ok)/\kv v H'':=by
   rcases hT with⟨e,t',H'',he,hok,hk⟩|⟨e,t',H'',he,hok,hk⟩<;>cases he
   ·exact⟨t',rfl,rfl,hok,hk⟩
   ·exact⟨t',rfl,rfl,hok,hk⟩
  obtain⟨t',rfl,rfl,hok,v,hv,H1,h3,h4,h5⟩:=this
  exact⟨rfl,v,v,H1,hv,.inl rfl,h3,.inl ⟨v,H1,rfl,h4 hok,h5⟩⟩
 ·obtain⟨e,t',H'',he,hok,hk⟩:=hT
  cases he
  exact⟨rfl,v,H',.inl rfl,⟨Nat.le_refl _,fun _ _ h=>h⟩,.inr ⟨v,H',rfl,hok,hk⟩⟩
 ·obtain⟨e,t',H'',he,hok,hk⟩:=hT
  cases he
  cases hk
def qi(H H':qa):Prop:=H.next<=H'.next/\∀i o,look i H.objs=some o->look i H'.objs=some o
theorem qi.refl{H:qa}{n:Nat}(h:H.next<=n):qi H ⟨H.objs,n⟩:=⟨h,fun _ _ h=>h⟩
theorem qi.refl'(H:qa):qi H H:=⟨Nat.le_refl _,fun _ _ h=>h⟩
theorem qi.cons{H:qa}(hH:H.Ok){i n m:Nat}{o:qc}{l:List (Nat×qc)}(hi:H.next<=i)(h:qi H ⟨l,n⟩)(hm:H.next<=m):qi H ⟨(i,o)::l,m⟩:=
 ⟨hm,fun j x hj=>by
  have:=hH.look hj
  simp only[look]
  rw[if_neg (by omega)]
  exact h.2 j x hj⟩
def qaS(E:Env)(F:Fns)(f:FuncId)(args:List LV)(v:LV):Prop:=∀(H:qa)(kv kp:HP),(∀n,H.next<=n->kv v ⟨H.objs,n⟩)->cP E F f args H kv kp
def qez(H:qa)(v:LV):HP:=fun u H'=>∃H'',HWk H' H''/\(H'.Ok->H''.Ok)/\u=v/\∃n,H.next<=n/\H''=⟨H.objs,n⟩
theorem qcW{H H':qa}{u v:LV}(hH:H.Ok)(h:u=v)(he:qi H H'):qez H v u H':=
 ⟨⟨H.objs,H'.next⟩,⟨Nat.le_refl _,he.2⟩,fun _=>qx.mono hH he.1,h,_,he.1,rfl⟩
theorem qaS.of_fn{b:BFn}{f:FuncId}{args:List LV}{v:LV}(hf:F.fn f b)(h:∀H:qa,H.Ok->fnP E F b args H (qez H v) (fun _ _=>False)):qaS E F f args v:=by
 intro H kv kp hk hH
 have h1:=zX (kv:=fun u H''=>u=v/\∃n,H.next<=n/\H''=⟨H.objs,n⟩) (kp:=fun _ _=>False) hf (fun hH=>h H hH) hH
 refine .mono h1 fun r hr=>?_
 rcases hr with⟨u,H',rfl,hok,rfl,n,hn,rfl⟩|⟨u,H',rfl,hok,hf⟩
 ·exact .inl ⟨u,_,rfl,hok,hk n hn⟩
 ·exact hf.elim
end
end Go.Abs
namespace Go.Abs
open Go
section
variable{E:Env}{F:Fns}
theorem zu{α:Type}(v:α)(k:α->Prop):vP (some v) k=k v:=propext ⟨fun⟨_,h,h'⟩=>by cases h;exact h',fun h=>⟨v,rfl,h⟩⟩
theorem zG{α:Type}(k:α->Prop):vP none k=False:=propext ⟨fun⟨_,h,_⟩=>(by cases h),False.elim⟩
theorem uO{α β:Type}(o:Option α)(f:α->β)(k:β->Prop):vP (o.map f) k=vP o fun v=>k (f v):=by
 cases o with
 |none=>rw[Option.map_none,zG,zG]
 |some v=>rw[Option.map_some,zu,zu]
theorem jR{α β:Type}(o:Option α)(f:α->Option β)(k:β->Prop):vP (o.bind f) k=vP o fun v=>vP (f v) k:=by
 cases o with
 |none=>rw[Option.bind_none,zG,zG]
 |some v=>rw[Option.bind_some,zu]
theorem uB(v:LV)(H:qa)(k:HP):eP (some (v,H)) k=k v H:=propext ⟨fun⟨_,_,h,h'⟩=>by cases h;exact h',fun h=>⟨v,H,rfl,h⟩⟩
theorem qed(b:Bool)(A B:Prop):bP (.sc (.bool b)) A B=((b=true->A)/\(b=false->B)):=by
 cases b<;>simp[bP]
theorem vl(A B:Prop):bP (.sc (.bool true)) A B=A:=by simp[bP]
theorem vm(A B:Prop):bP (.sc (.bool false)) A B=B:=by simp[bP]
theorem yD(w:Bool)(A B:Prop):gP w (.sc (.bool w)) A B=A:=by cases w<;>simp[gP]
theorem yF(A B:Prop):gP true (.sc (.bool false)) A B=B:=by simp[gP]
theorem yG(A B:Prop):gP false (.sc (.bool true)) A B=B:=by simp[gP]
theorem yE(w:Bool)(A B:Prop):gP w (.tup []) A B=B:=by cases w<;>simp[gP]
theorem qeP(b:Bool)(A B:Prop):gP true (.sc (.bool b)) A B=((b=true->A)/\(b=false->B)):=by cases b<;>simp[gP]
theorem qeQ(b:Bool)(A B:Prop):gP false (.sc (.bool b)) A B=((b=true->B)/\(b=false->A)):=by cases b<;>simp[gP]
theorem jY(t:FT)(H:qa)(k:XP):uP E F .skip t H k=k .normal t H:=propext Iff.rfl
theorem j6(l:List BI)(t:FT)(H:qa)(k:XP):uP E F (.ops l) t H k=vW E F l t H k:=propext Iff.rfl
theorem j9(l:List (BI×List BI))(t:FT)(H:qa)(k:XP):uP E F (.drw l) t H k=yX E F l t H k:=propext Iff.rfl
theorem jZ(a b:qr)(t:FT)(H:qa)(k:XP):uP E F (.seq a b) t H k=uP E F a t H (qdz (fun t' H'=>uP E F b t' H' k) k):=propext Iff.rfl
theorem ga(c:BO)(a b:qr)(t:FT)(H:qa)(k:XP):uP E F (.cond c a b) t H k=evP E c t fun v=>bP v (uP E F a t H k) (uP E F b t H k):=propext Iff.rfl
theorem gc(id:Nat)(c:qr)(t:FT)(H:qa)(k:XP):uP E F (.blk id c) t H k=uP E F c t H (qdh id k):=propext Iff.rfl
theorem j7(c:qr)(t:FT)(H:qa)(k:XP):uP E F (.loop c) t H k=lP E F (.loop c) t H k:=propext Iff.rfl
theorem j8(id:Nat)(t:FT)(H:qa)(k:XP):uP E F (.exit id) t H k=k (.exit id) t H:=propext Iff.rfl
theorem j0(t:FT)(H:qa)(k:XP):uP E F .ret t H k=k .ret t H:=propext Iff.rfl
theorem jW(kb:FT->qa->Prop)(k:XP)(t:FT)(H:qa):qdz kb k .normal t H=kb t H:=propext Iff.rfl
theorem jU(kb:FT->qa->Prop)(k:XP)(t:FT)(H:qa):qdz kb k .ret t H=k .ret t H:=propext Iff.rfl
theorem jX(kb:FT->qa->Prop)(k:XP)(n:Nat)(t:FT)(H:qa):qdz kb k (.exit n) t H=k (.exit n) t H:=propext Iff.rfl
theorem jV(kb:FT->qa->Prop)(k:XP)(v:LV)(t:FT)(H:qa):qdz kb k (.pan v) t H=k (.pan v) t H:=propext Iff.rfl
theorem vj(id:Nat)(k:XP)(t:FT)(H:qa):qdh id k .normal t H=k .normal t H:=propext Iff.rfl
theorem vh(id:Nat)(k:XP)(t:FT)(H:qa):qdh id k .ret t H=k .ret t H:=propext Iff.rfl
theorem vk(id:Nat)(k:XP)(n:Nat)(t:FT)(H:qa):qdh id k (.exit n) t H=if n=id then k .normal t H else k (.exit n) t H:=propext Iff.rfl
theorem vi(id:Nat)(k:XP)(v:LV)(t:FT)(H:qa):qdh id k (.pan v) t H=k (.pan v) t H:=propext Iff.rfl
theorem yy(kb:FT->qa->Prop)(k:XP)(t:FT)(H:qa):qdJ kb k .normal t H=kb t H:=propext Iff.rfl
theorem yw(kb:FT->qa->Prop)(k:XP)(t:FT)(H:qa):qdJ kb k .ret t H=k .ret t H:=propext Iff.rfl
theorem yz(kb:FT->qa->Prop)(k:XP)(n:Nat)(t:FT)(H:qa):qdJ kb k (.exit n) t H=k (.exit n) t H:=propext Iff.rfl
theorem yx(kb:FT->qa->Prop)(k:XP)(v:LV)(t:FT)(H:qa):qdJ kb k (.pan v) t H=k (.pan v) t H:=propext Iff.rfl
theorem yK(b:BFn)(kv kp:HP)(t:FT)(H:qa):qeW E b kv kp .normal t H=vU E b.res t H fun v=>kv v H:=propext Iff.rfl
theorem yI(b:BFn)(kv kp:HP)(t:FT)(H:qa):qeW E b kv kp .ret t H=vU E b.res t H fun v=>kv v H:=propext Iff.rfl
theorem yJ(b:BFn)(kv kp:HP)(v:LV)(t:FT)(H:qa):qeW E b kv kp (.pan v) t H=kp v H:=propext Iff.rfl
theorem jj(n:Nat)(t:FT)(H:qa)(k:LV->Prop):vU E [.t n] t H k=zW t n k:=by unfold vU zW;simp[qaE,qaj,zu]
theorem z8(n m:Nat)(t:FT)(H:qa)(k:LV->Prop):vU E [.t n,.t m] t H k=zW t n fun a=>zW t m fun b=>k (.tup [a,b]):=by
 unfold vU zW;simp[qaE,qaj,zu]
theorem ge(n m q:Nat)(t:FT)(H:qa)(k:LV->Prop):vU E [.t n,.t m,.t q] t H k=zW t n fun a=>zW t m fun b=>zW t q fun c=>k (.tup [a,b,c]):=by
 unfold vU zW;simp[qaE,qaj,zu]
theorem zw(t:FT)(H:qa)(k:LV->Prop):vU E [] t H k=k (.tup []):=by
 unfold vU;simp[qaE,zu]
theorem zU(n:Nat)(m:Option Nat)(t:FT)(H:qa)(k:LV->Prop):vU E [.c n m] t H k=zW t n fun a=>vP (qS H m a) k:=propext Iff.rfl
theorem yi(o n m:Nat)(c:Option Nat)(l:List (Nat×qc))(kv:HP):nxP E (.ptr o 0) ⟨(o,.iter o [] c m)::l,n⟩ kv=kv (.tup [.bool false]) ⟨(o,.iter o [] c m)::l,n⟩:=by
 unfold nxP
 apply propext
 constructor
 ·rintro⟨o',m',left,k,n',h1,h2,h3⟩
  cases h1
  simp only[look,if_true,Option.some.injEq,qc.iter.injEq]at h2
  obtain⟨rfl,rfl,rfl,rfl⟩:=h2
  rcases h3 with⟨_,_,h⟩|⟨h,_⟩
  ·exact h
  ·exact absurd rfl h
 ·intro h
  exact⟨o,o,[],c,m,rfl,by simp[look],.inl ⟨rfl,.inl rfl,h⟩⟩
theorem vn(n:Nat)(t:FT)(k:FT->Prop):qdk [] n t k=k t:=propext Iff.rfl
theorem vo(v:LV)(l:List LV)(n:Nat)(t:FT)(k:FT->Prop):qdk (v::l) n t k=vT t n v fun t'=>qdk l (n+1) t' k:=propext Iff.rfl
theorem yN(n:Nat)(t:FT)(k:LV->Prop):evP E (.t n) t k=zW t n k:=propext Iff.rfl
theorem yP(v:LV)(t:FT)(k:LV->Prop):evP E (.c v) t k=k v:=propext Iff.rfl
theorem yO(n:Nat)(t:FT)(k:LV->Prop):evP E (.g n) t k=k (E.glob n):=propext Iff.rfl
theorem yL(t:FT)(k:List LV->Prop):wh E [] t k=k []:=propext Iff.rfl
theorem yM(x:BO)(xs:List BO)(t:FT)(k:List LV->Prop):wh E (x::xs) t k=evP E x t fun v=>wh E xs t fun vs=>k (v::vs):=propext Iff.rfl
theorem yZ(f:FuncId)(first cap args:List LV)(H:qa)(kv kp:HP):clP E F (.fn (.func f) first cap) args H kv kp=cP E F f (first++args++cap) H kv kp:=
 propext ⟨fun⟨_,_,_,h,h'⟩=>by cases h;exact h',fun h=>⟨f,first,cap,rfl,h⟩⟩
theorem gh(ty:TypeId)(v:LV)(k:LV->Prop):pnP (.iface ty v) k=k (.iface ty v):=propext ⟨fun⟨_,_,h,h'⟩=>by cases h;exact h',fun h=>⟨ty,v,rfl,h⟩⟩
theorem gq(t:FT)(H:qa)(k:XP):vW E F [] t H k=k .normal t H:=propext Iff.rfl
theorem gv(d:Nat)(op:BOp)(l:List BI)(t:FT)(H:qa)(k:XP):
  vW E F (⟨some d,none,op⟩::l) t H k=opP E F op t H (fun v H'=>vT t d v fun t'=>vW E F l t' H' k) (fun v H'=>k (.pan v) t H'):=propext Iff.rfl
theorem gp(op:BOp)(l:List BI)(t:FT)(H:qa)(k:XP):
  vW E F (⟨none,none,op⟩::l) t H k=opP E F op t H (fun _ H'=>vW E F l t H' k) (fun v H'=>k (.pan v) t H'):=propext Iff.rfl
theorem gt(d j:Nat)(op:BOp)(l:List BI)(t:FT)(H:qa)(k:XP):
  vW E F (⟨some d,some (j,true),op⟩::l) t H k=zW t j fun u=>gP true u (opP E F op t H (fun v H'=>vT t d v fun t'=>vW E F l t' H' k) (fun v H'=>k (.pan v) t H')) (vT t d (.tup []) fun t'=>vW E F l t' H k):=propext Iff.rfl
theorem gu(d j:Nat)(op:BOp)(l:List BI)(t:FT)(H:qa)(k:XP):
  vW E F (⟨some d,some (j,false),op⟩::l) t H k=zW t j fun u=>gP false u (opP E F op t H (fun v H'=>vT t d v fun t'=>vW E F l t' H' k) (fun v H'=>k (.pan v) t H')) (vT t d (.tup []) fun t'=>vW E F l t' H k):=propext Iff.rfl
theorem g7(f:FuncId)(as:List BO)(t:FT)(H:qa)(kv kp:HP):opP E F (.cf f as) t H kv kp=wh E as t fun vs=>cP E F f vs H kv kp:=propext Iff.rfl
theorem g6(x:BO)(as:List BO)(t:FT)(H:qa)(kv kp:HP):opP E F (.cl x as) t H kv kp=evP E x t fun v=>wh E as t fun vs=>clP E F v vs H kv kp:=propext Iff.rfl
theorem gC(x:BO)(t:FT)(H:qa)(kv kp:HP):opP E F (.pn x) t H kv kp=evP E x t fun v=>pnP v fun u=>kp u H:=propext Iff.rfl
theorem gE(x:BO)(t:FT)(H:qa)(kv kp:HP):opP E F (.nx x) t H kv kp=evP E x t fun v=>nxP E v H kv:=propext Iff.rfl
theorem jB(x:BO)(t:FT)(H:qa)(k:LV->Prop):qM E (.mv x) t H k=evP E x t k:=by unfold qM evP;rw[show qE E t.get H (.mv x)=some (E.ev t.get x) from rfl,zu]
theorem jy(c a b:BO)(t:FT)(H:qa)(k:LV->Prop):qM E (.pk c a b) t H k=evP E c t fun v=>bP v (evP E a t k) (evP E b t k):=by
 unfold qM evP
 apply propext
 constructor
 ·rintro⟨v,h1,h2⟩
  simp only[qE]at h1
  split at h1
  ·rename_i b' hb
   rw[hb,qed]
   cases b'<;>simp_all
  ·cases h1
 ·rintro(⟨h1,h2⟩|⟨h1,h2⟩)
  ·exact⟨_,by simp only[qE,h1];rfl,h2⟩
  ·exact⟨_,by simp only[qE,h1];rfl,h2⟩
theorem jM(neg:Bool)(e:EqK)(x y:BO)(t:FT)(H:qa)(k:LV->Prop):qM E (.eq neg e x y) t H k=evP E x t fun a=>evP E y t fun b=>vP (eqK e a b) fun r=>k (.sc (.bool (r != neg))):=uO _ _ _
theorem jP(o:BinOp)(x y:BO)(t:FT)(H:qa)(k:LV->Prop):qM E (.bn o x y) t H k=evP E x t fun a=>evP E y t fun b=>vP (zY o a b) k:=propext Iff.rfl
theorem jz(x:BO)(t:FT)(H:qa)(k:LV->Prop):qM E (.nt x) t H k=evP E x t fun a=>vP (match a with|.sc (.bool b)=>some (LV.sc (.bool !b))|_=>none) k:=propext Iff.rfl
theorem jH(n:Option Nat)(x:BO)(t:FT)(H:qa)(k:LV->Prop):qM E (.ld n x) t H k=evP E x t fun a=>vP (qS H n a) k:=propext Iff.rfl
def faL(off:Nat):LV->Option LV
 |.ptr o k=>some (.ptr o (k+off))
 |.cptr cs k=>some (.cptr cs (k+off))
 |_=>none
theorem jL(off:Nat)(x:BO)(t:FT)(H:qa)(k:LV->Prop):qM E (.fa off x) t H k=evP E x t fun a=>vP (faL off a) k:=propext Iff.rfl
def fdL(off:Nat)(n:Option Nat):LV->Option LV
 |.agg cs=>zm cs off n
 |_=>none
theorem jK(off:Nat)(n:Option Nat)(x:BO)(t:FT)(H:qa)(k:LV->Prop):qM E (.fd off n x) t H k=evP E x t fun a=>vP (fdL off n a) k:=propext Iff.rfl
def iaL(H:qa)(sz:Nat)(x i:LV):Option LV:=match x,qX i with
 |.sl es _,some n=>match es[n]? with
  |some e=>if e.cells.length=sz then some (.cptr e.cells 0) else none
  |none=>none
 |.asl o off len,some n=>match look o H.objs with
  |some (.arr s _)=>if n<len/\s=sz then some (.ptr o ((off+n)*sz)) else none
  |_=>none
 |_,_=>none
theorem jJ(sz:Nat)(x i:BO)(t:FT)(H:qa)(k:LV->Prop):qM E (.ia sz x i) t H k=evP E x t fun a=>evP E i t fun b=>vP (iaL H sz a b) k:=propext Iff.rfl
def ixL(m:Option Nat)(x i:LV):Option LV:=match x,qX i,m with
 |.sc (.string s),some n,none=>(s.data[n]?).map fun b=>.sc (.int .u8 b.toNat)
 |.agg cs,some n,some m=>if n<m then cs[n]? else none
 |_,_,_=>none
theorem jI(m:Option Nat)(x i:BO)(t:FT)(H:qa)(k:LV->Prop):qM E (.ix m x i) t H k=evP E x t fun a=>evP E i t fun b=>vP (ixL m a b) k:=propext Iff.rfl
theorem jF(n:Nat)(x:BO)(t:FT)(H:qa)(k:LV->Prop):qM E (.ln n x) t H k=evP E x t fun a=>vP (ze H n a) fun(m:Nat)=>k (.sc (.int .i64 (m:Int))):=uO _ _ _
theorem ju(n sz:Nat)(x:BO)(t:FT)(H:qa)(k:LV->Prop):qM E (.sr n sz x none none) t H k=evP E x t fun a=>vP (ze H n a) fun m=>vP (zM n sz a 0 m) k:=by
 unfold qM evP
 simp only[qE,jk]
 cases ze H n (E.ev t.get x) with
 |none=>simp only[zG]
 |some m=>
  simp only[zu]
theorem jv(n sz:Nat)(x l:BO)(t:FT)(H:qa)(k:LV->Prop):qM E (.sr n sz x (some l) none) t H k=evP E x t fun a=>evP E l t fun b=>vP (ze H n a) fun m=>vP (qX b) fun j=>vP (zM n sz a j m) k:=by
 unfold qM evP
 simp only[qE,jk]
 cases ze H n (E.ev t.get x) with
 |none=>simp only[zG]
 |some m=>
  simp only[zu]
  cases qX (E.ev t.get l)<;>simp only[zu,zG]
theorem jw(n sz:Nat)(x l:BO)(t:FT)(H:qa)(k:LV->Prop):qM E (.sr n sz x none (some l)) t H k=evP E x t fun a=>evP E l t fun b=>vP (ze H n a) fun _=>vP (qX b) fun j=>vP (zM n sz a 0 j) k:=by
 unfold qM evP
 simp only[qE,jk]
 cases ze H n (E.ev t.get x) with
 |none=>simp only[zG]
 |some m=>
  simp only[zu]
  cases qX (E.ev t.get l)<;>simp only[zu,zG]
theorem jx(n sz:Nat)(x l h:BO)(t:FT)(H:qa)(k:LV->Prop):qM E (.sr n sz x (some l) (some h)) t H k=evP E x t fun a=>evP E l t fun b=>evP E h t fun c=>vP (ze H n a) fun _=>vP (qX b) fun j=>vP (qX c) fun i=>vP (zM n sz a j i) k:=by
 unfold qM evP
 simp only[qE,jk]
 cases ze H n (E.ev t.get x) with
 |none=>simp only[zG]
 |some m=>
  simp only[zu]
  cases qX (E.ev t.get l)<;>simp only[zu,zG]<;>cases qX (E.ev t.get h)<;>simp only[zu,zG]
theorem jN(kk:IntKind)(x:BO)(t:FT)(H:qa)(k:LV->Prop):qM E (.cv kk x) t H k=evP E x t fun a=>vP (match a with|.sc (.int _ n)=>some (LV.sc (.int kk (kk.wrap n)))|_=>none) k:=propext Iff.rfl
theorem jD(ty:TypeId)(x:BO)(t:FT)(H:qa)(k:LV->Prop):qM E (.mi ty x) t H k=evP E x t fun a=>k (.iface ty a):=by
 unfold qM evP;rw[show qE E t.get H (.mi ty x)=some (.iface ty (E.ev t.get x)) from rfl,zu]
theorem jE(f:Fn)(a b:List BO)(t:FT)(H:qa)(k:LV->Prop):qM E (.mf f a b) t H k=wh E a t fun u=>wh E b t fun v=>k (.fn f u v):=by
 unfold qM wh;rw[show qE E t.get H (.mf f a b)=some (.fn f (a.map (E.ev t.get)) (b.map (E.ev t.get))) from rfl,zu]
theorem jq(i:Nat)(x:BO)(t:FT)(H:qa)(k:LV->Prop):qM E (.xt i x) t H k=evP E x t fun a=>vP (match a with|.tup vs=>vs[i]?|_=>none) k:=propext Iff.rfl
theorem jO(sz:Nat)(ps:List BO)(t:FT)(H:qa)(k:LV->Prop):qM E (.bs sz ps) t H k=wh E ps t fun vs=>vP (if vs.all (fun v=>v.cells.length==sz&&v.whole) then some (LV.sl vs .full) else none) k:=by
 unfold qM wh
 show vP (if _ then _ else _) k=vP (if _ then _ else _) k
 rw[List.all_map];rfl
theorem jQ(zero:List LV)(ps:List (Nat×Nat×BO))(t:FT)(H:qa)(k:LV->Prop):qM E (.bd zero ps) t H k=wh E (ps.map fun p=>p.2.2) t fun vs=>vP (zN zero ((ps.zip vs).map fun q=>(q.1.1,q.1.2.1,q.2))) fun cs=>k (.agg cs):=by
 unfold qM wh
 have:(ps.map fun p=>(p.1,p.2.1,E.ev t.get p.2.2))=(ps.zip ((ps.map fun p=>p.2.2).map (E.ev t.get))).map fun q=>(q.1.1,q.1.2.1,q.2):=by
  induction ps with
  |nil=>rfl
  |cons p ps ih=>simp only[List.map_cons,List.zip_cons_cons,ih]
 show vP ((zN zero (ps.map fun p=>(p.1,p.2.1,E.ev t.get p.2.2))).map .agg) k=_
 rw[this]
 exact uO _ _ _
theorem jA(x:BO)(t:FT)(H:qa)(k:LV->Prop):qM E (.nc x) t H k=evP E x t fun a=>vP (faL 0 a) k:=by
 unfold qM evP;congr 1
theorem jC(mx:Bool)(x y:BO)(t:FT)(H:qa)(k:LV->Prop):qM E (.mn mx x y) t H k=evP E x t fun a=>evP E y t fun b=>vP (match a,b with
  |.sc (.int k a),.sc (.int k' b)=>if k=k' then some (LV.sc (.int k (if mx then (if b > a then b else a) else (if b<a then b else a)))) else none
  |_,_=>none) k:=propext Iff.rfl
def lkL(H:qa)(e:EqK)(ok:Bool)(z x i:LV):Option LV:=if (eqK e i i).isSome then match x with
  |.sc (.map none)=>some (if ok then .tup [z,.bool false] else z)
  |.map o=>match look o H.objs with
   |some (.map es)=>match yH e i es with
    |some (some v)=>some (if ok then .tup [v,.bool true] else v)
    |some none=>some (if ok then .tup [z,.bool false] else z)
    |none=>none
   |some (.um es)=>match wG e i es with
    |some (some v)=>some (if ok then .tup [v,.bool true] else v)
    |some none=>some (if ok then .tup [z,.bool false] else z)
    |none=>none
   |_=>none
  |_=>none
  else none
theorem jG(e:EqK)(ok:Bool)(z x i:BO)(t:FT)(H:qa)(k:LV->Prop):qM E (.lk e ok z x i) t H k=evP E z t fun c=>evP E x t fun a=>evP E i t fun b=>vP (lkL H e ok c a b) k:=propext Iff.rfl
theorem jr(ty:TypeId)(z x:BO)(t:FT)(H:qa)(k:LV->Prop):qM E (.ta ty z x) t H k=evP E z t fun c=>evP E x t fun a=>vP (match a with
  |.iface u v=>some (if u=ty then LV.tup [v,.bool true] else .tup [c,.bool false])
  |.sc .nilIface=>some (.tup [c,.bool false])
  |_=>none) k:=propext Iff.rfl
theorem gI(x:BO)(t:FT)(H:qa)(kv kp:HP):opP E F (.mv x) t H kv kp=qM E (.mv x) t H fun v=>kv v H:=propext Iff.rfl
theorem gD(c a b:BO)(t:FT)(H:qa)(kv kp:HP):opP E F (.pk c a b) t H kv kp=qM E (.pk c a b) t H fun v=>kv v H:=propext Iff.rfl
theorem gY(neg:Bool)(e:EqK)(x y:BO)(t:FT)(H:qa)(kv kp:HP):opP E F (.eq neg e x y) t H kv kp=qM E (.eq neg e x y) t H fun v=>kv v H:=propext Iff.rfl
theorem ya(o:BinOp)(x y:BO)(t:FT)(H:qa)(kv kp:HP):opP E F (.bn o x y) t H kv kp=qM E (.bn o x y) t H fun v=>kv v H:=propext Iff.rfl
theorem gF(x:BO)(t:FT)(H:qa)(kv kp:HP):opP E F (.nt x) t H kv kp=qM E (.nt x) t H fun v=>kv v H:=propext Iff.rfl
theorem gS(n:Option Nat)(x:BO)(t:FT)(H:qa)(kv kp:HP):opP E F (.ld n x) t H kv kp=qM E (.ld n x) t H fun v=>kv v H:=propext Iff.rfl
theorem gW(n:Nat)(x:BO)(t:FT)(H:qa)(kv kp:HP):opP E F (.fa n x) t H kv kp=qM E (.fa n x) t H fun v=>kv v H:=propext Iff.rfl
theorem gV(n:Nat)(m:Option Nat)(x:BO)(t:FT)(H:qa)(kv kp:HP):opP E F (.fd n m x) t H kv kp=qM E (.fd n m x) t H fun v=>kv v H:=propext Iff.rfl
theorem gU(n:Nat)(x i:BO)(t:FT)(H:qa)(kv kp:HP):opP E F (.ia n x i) t H kv kp=qM E (.ia n x i) t H fun v=>kv v H:=propext Iff.rfl
theorem gT(n:Option Nat)(x i:BO)(t:FT)(H:qa)(kv kp:HP):opP E F (.ix n x i) t H kv kp=qM E (.ix n x i) t H fun v=>kv v H:=propext Iff.rfl
theorem gO(n:Nat)(x:BO)(t:FT)(H:qa)(kv kp:HP):opP E F (.ln n x) t H kv kp=qM E (.ln n x) t H fun v=>kv v H:=propext Iff.rfl
theorem gz(n m:Nat)(x:BO)(l h:Option BO)(t:FT)(H:qa)(kv kp:HP):opP E F (.sr n m x l h) t H kv kp=qM E (.sr n m x l h) t H fun v=>kv v H:=propext Iff.rfl
theorem g0(n:IntKind)(x:BO)(t:FT)(H:qa)(kv kp:HP):opP E F (.cv n x) t H kv kp=qM E (.cv n x) t H fun v=>kv v H:=propext Iff.rfl
theorem gM(n:TypeId)(x:BO)(t:FT)(H:qa)(kv kp:HP):opP E F (.mi n x) t H kv kp=qM E (.mi n x) t H fun v=>kv v H:=propext Iff.rfl
theorem gN(f:Fn)(a b:List BO)(t:FT)(H:qa)(kv kp:HP):opP E F (.mf f a b) t H kv kp=qM E (.mf f a b) t H fun v=>kv v H:=propext Iff.rfl
theorem gw(n:Nat)(x:BO)(t:FT)(H:qa)(kv kp:HP):opP E F (.xt n x) t H kv kp=qM E (.xt n x) t H fun v=>kv v H:=propext Iff.rfl
theorem g9(n:Nat)(x:List BO)(t:FT)(H:qa)(kv kp:HP):opP E F (.bs n x) t H kv kp=qM E (.bs n x) t H fun v=>kv v H:=propext Iff.rfl
theorem yb(n:List LV)(x:List (Nat×Nat×BO))(t:FT)(H:qa)(kv kp:HP):opP E F (.bd n x) t H kv kp=qM E (.bd n x) t H fun v=>kv v H:=propext Iff.rfl
theorem gG(x:BO)(t:FT)(H:qa)(kv kp:HP):opP E F (.nc x) t H kv kp=qM E (.nc x) t H fun v=>kv v H:=propext Iff.rfl
theorem gK(m:Bool)(x y:BO)(t:FT)(H:qa)(kv kp:HP):opP E F (.mn m x y) t H kv kp=qM E (.mn m x y) t H fun v=>kv v H:=propext Iff.rfl
theorem gQ(e:EqK)(ok:Bool)(z x i:BO)(t:FT)(H:qa)(kv kp:HP):opP E F (.lk e ok z x i) t H kv kp=qM E (.lk e ok z x i) t H fun v=>kv v H:=propext Iff.rfl
theorem gx(n:TypeId)(z x:BO)(t:FT)(H:qa)(kv kp:HP):opP E F (.ta n z x) t H kv kp=qM E (.ta n z x) t H fun v=>kv v H:=propext Iff.rfl
theorem qdf{op:BOp}{t:FT}{H:qa}{k:HP}(h:wX E t.get H op=none):wi E op t H k=eP (uo E t.get H op) k:=by
 unfold wi;rw[h];apply propext
 constructor
 ·rintro(h|⟨_,_,h,_⟩)
  ·exact h
  ·cases h
 ·exact .inl
theorem yd(z:List LV)(t:FT)(H:qa)(kv kp:HP):opP E F (.al z) t H kv kp=kv (.ptr H.next 0) ⟨(H.next,.cells z)::H.objs,H.next+1⟩:=by
 show wi E _ t H kv=_
 rw[qdf rfl];exact uB _ _ _
theorem g8(x:BO)(t:FT)(H:qa)(kv kp:HP):opP E F (.bx x) t H kv kp=evP E x t fun a=>(a.whole=true/\kv (.ptr H.next 0) ⟨(H.next,.cells a.cells)::H.objs,H.next+1⟩):=by
 show wi E _ t H kv=_
 rw[qdf rfl]
 unfold evP
 simp only[uo]
 cases h:(E.ev t.get x).whole with
 |true=>rw[if_pos rfl,uB];simp only[true_and];rfl
 |false=>
       rw[if_neg (by simp)];apply propext;constructor
       ·rintro⟨_,_,h,_⟩;cases h
       ·rintro⟨h,_⟩;cases h
def stL(H:qa)(n:Nat)(a x:LV):Option qa:=match a with
 |.ptr o off=>match look o H.objs with
  |some (.cells cs)=>if x.cells.length=n/\x.whole/\off+n<=cs.length then some (H.put o (.cells (cs.take off++x.cells++cs.drop (off+n)))) else none
  |some (.arr sz cs)=>if x.cells.length=n/\x.whole/\off+n<=cs.length then some (H.put o (.arr sz (cs.take off++x.cells++cs.drop (off+n)))) else none
  |_=>none
 |_=>none
theorem gy(n:Nat)(a x:BO)(t:FT)(H:qa)(kv kp:HP):opP E F (.st n a x) t H kv kp=evP E a t fun u=>evP E x t fun v=>vP (stL H n u v) fun H'=>kv .bot H':=by
 show wi E _ t H kv=_
 rw[qdf rfl]
 unfold evP
 have:uo E t.get H (.st n a x)=(stL H n (E.ev t.get a) (E.ev t.get x)).map fun H'=>(LV.bot,H'):=by
  simp only[uo,stL]
  cases E.ev t.get a with
  |ptr o off=>
   simp only
   cases look o H.objs with
   |none=>rfl
   |some ob=>
    cases ob with
    |cells cs=>simp only;split<;>rfl
    |arr sz cs=>simp only;split<;>rfl
    |_=>rfl
  |_=>rfl
 rw[this]
 unfold eP vP
 apply propext
 constructor
 ·rintro⟨v,H',h1,h2⟩
  obtain⟨H'',h3,h4⟩:=Option.map_eq_some_iff.1 h1
  cases h4
  exact⟨_,h3,h2⟩
 ·rintro⟨H',h1,h2⟩
  exact⟨_,_,by rw[h1];rfl,h2⟩
theorem yc(sz:Nat)(a x:BO)(t:FT)(H:qa)(kv kp:HP):opP E F (.ap sz a x) t H kv kp=wi E (.ap sz a x) t H kv:=propext Iff.rfl
def apL(H:qa)(sz:Nat)(a x:LV):Option (LV×qa):=match a,x with
  |.sl es own,.sl xs _=>
   if (es.all fun e=>e.cells.length==sz)&&(xs.all fun e=>e.cells.length==sz) then
    if es.length+xs.length<=2^30/\sz<=2^10/\vE H sz own es.length then
     match own with
     |.tok t=>some (.sl (es++xs) own,H.put t (.tok (es.length+xs.length) sz))
     |_=>some (.sl (es++xs) (.tok H.next),H.alloc (.tok (es.length+xs.length) sz))
    else none
   else none
  |_,_=>none
theorem zF{sz:Nat}{a x:BO}{t:FT}{H:qa}{k:HP}(h:evP E a t fun u=>evP E x t fun v=>eP (apL H sz u v) k):wi E (.ap sz a x) t H k:=.inl h
theorem gL(t:FT)(H:qa)(kv kp:HP):opP E F .mk t H kv kp=kv (.map H.next) ⟨(H.next,.map [])::H.objs,H.next+1⟩:=by
 show wi E _ t H kv=_
 rw[qdf rfl];exact uB _ _ _
theorem gH(tb te:TypeId)(t:FT)(H:qa)(kv kp:HP):opP E F (.nb tb te) t H kv kp=kv (.ptr H.next 0) ⟨(H.next,.bld tb te [])::H.objs,H.next+1⟩:=by
 show wi E _ t H kv=_
 rw[qdf rfl];exact uB _ _ _
def muL(H:qa)(e:EqK)(m k v:LV):Option qa:=match m with
  |.map o=>match look o H.objs with
   |some (.map es)=>if (eqK e k k).isNone then none else (vL e k v es).map fun es'=>H.put o (.map es')
   |_=>none
  |_=>none
theorem gJ(e:EqK)(m i v:BO)(t:FT)(H:qa)(kv kp:HP):opP E F (.mu e m i v) t H kv kp=evP E m t fun a=>evP E i t fun b=>evP E v t fun c=>vP (muL H e a b c) fun H'=>kv .bot H':=by
 show wi E _ t H kv=_
 rw[qdf rfl]
 unfold evP
 have:uo E t.get H (.mu e m i v)=(muL H e (E.ev t.get m) (E.ev t.get i) (E.ev t.get v)).map fun H'=>(LV.bot,H'):=by
  simp only[uo,muL]
  cases E.ev t.get m with
  |map o=>
   simp only
   cases look o H.objs with
   |none=>rfl
   |some ob=>
    cases ob with
    |map es=>
     simp only
     split
     ·rfl
     ·rw[Option.map_map];rfl
    |_=>rfl
  |_=>rfl
 rw[this]
 unfold eP vP
 apply propext
 constructor
 ·rintro⟨v,H',h1,h2⟩
  obtain⟨H'',h3,h4⟩:=Option.map_eq_some_iff.1 h1
  cases h4
  exact⟨_,h3,h2⟩
 ·rintro⟨H',h1,h2⟩
  exact⟨_,_,by rw[h1];rfl,h2⟩
def rgL(H:qa)(x:LV):Option (LV×qa):=match x with
  |.sc (.map none)=>some (.ptr H.next 0,H.alloc (.iter H.next [] none 0))
  |.map o=>match look o H.objs with
   |some (.map es)=>some (.ptr H.next 0,H.alloc (.iter o (List.range es.length) none es.length))
   |_=>none
  |_=>none
theorem gA(x:BO)(t:FT)(H:qa)(kv kp:HP):opP E F (.rg x) t H kv kp=evP E x t fun a=>eP (rgL H a) kv:=by
 show wi E _ t H kv=_
 rw[qdf rfl];rfl
def enL(H:qa)(x:LV):Option LV:=match x with
  |.ptr o 0=>match look o H.objs with
   |some (.iter m _ (some i) n)=>match look m H.objs with
    |some (.map es)=>if es.length=n then (es[i]?).map fun kv=>.tup [kv.1,kv.2] else none
    |_=>none
   |_=>none
  |_=>none
theorem gZ(x:BO)(t:FT)(H:qa)(kv kp:HP):opP E F (.en x) t H kv kp=evP E x t fun a=>vP (enL H a) fun v=>kv v H:=propext Iff.rfl
theorem gi(t:FT)(H:qa):wR E t H []=True:=propext Iff.rfl
theorem gk(d:Nat)(op:BOp)(p:List BI)(t:FT)(H:qa):wR E t H (⟨some d,none,op⟩::p)=((zW t d fun u=>qM E op t H fun v=>u=v)/\wR E t H p):=by
 apply propext
 constructor
 ·rintro⟨⟨_,h1,h2⟩,h3⟩;cases h1;exact⟨h2,h3⟩
 ·rintro⟨h2,h3⟩;exact⟨⟨_,rfl,h2⟩,h3⟩
theorem gj(d j:Nat)(b:Bool)(op:BOp)(p:List BI)(t:FT)(H:qa):wR E t H (⟨some d,some (j,b),op⟩::p)=((zW t j fun u=>gP b u (zW t d fun u=>qM E op t H fun v=>u=v) True)/\wR E t H p):=by
 have:(∃d',some d=some d'/\zW t d' fun u=>qM E op t H fun v=>u=v)=(zW t d fun u=>qM E op t H fun v=>u=v):=
  propext ⟨fun⟨_,h1,h2⟩=>(by cases h1;exact h2),fun h=>⟨d,rfl,h⟩⟩
 show (qcQ (some (j,b)) t (∃d',some d=some d'/\zW t d' fun u=>qM E op t H fun v=>u=v) True/\_)=_
 rw[this];exact propext Iff.rfl
theorem yT(t:FT)(H:qa)(k:XP):yX E F [] t H k=k .normal t H:=propext Iff.rfl
def uI(E:Env)(F:Fns)(op:BOp)(p:List BI)(t:FT)(H:qa)(kv kp:HP):Prop:=match op with
    |.pn _=>False
    |.nx _=>False
    |.cf f as=>wh E as t fun vs=>cP E F f vs H (fun v H'=>wR E t H' p/\kv v H') kp
    |.cl x as=>evP E x t fun u=>wh E as t fun vs=>clP E F u vs H (fun v H'=>wR E t H' p/\kv v H') kp
    |.al _|.bx _|.st _ _ _|.ap _ _ _|.mk|.nb _ _|.mu _ _ _ _|.ms _ _|.rg _=>opP E F op t H (fun v H'=>wR E t H' p/\kv v H') kp
    |op=>opP E F op t H kv kp
theorem yW(d:Nat)(op:BOp)(p:List BI)(l:List (BI×List BI))(t:FT)(H:qa)(k:XP):
  yX E F ((⟨some d,none,op⟩,p)::l) t H k=uI E F op p t H (fun v H'=>vT t d v fun t'=>yX E F l t' H' k) (fun v H'=>k (.pan v) .nil H'):=by
 cases op<;>exact propext Iff.rfl
theorem yS(op:BOp)(p:List BI)(l:List (BI×List BI))(t:FT)(H:qa)(k:XP):
  yX E F ((⟨none,none,op⟩,p)::l) t H k=uI E F op p t H (fun _ H'=>yX E F l t H' k) (fun v H'=>k (.pan v) .nil H'):=by
 cases op<;>exact propext Iff.rfl
theorem yU(d j:Nat)(op:BOp)(p:List BI)(l:List (BI×List BI))(t:FT)(H:qa)(k:XP):
  yX E F ((⟨some d,some (j,true),op⟩,p)::l) t H k=zW t j fun u=>gP true u (uI E F op p t H (fun v H'=>vT t d v fun t'=>yX E F l t' H' k) (fun v H'=>k (.pan v) .nil H')) (vT t d (.tup []) fun t'=>yX E F l t' H k):=by
 cases op<;>exact propext Iff.rfl
theorem yV(d j:Nat)(op:BOp)(p:List BI)(l:List (BI×List BI))(t:FT)(H:qa)(k:XP):
  yX E F ((⟨some d,some (j,false),op⟩,p)::l) t H k=zW t j fun u=>gP false u (uI E F op p t H (fun v H'=>vT t d v fun t'=>yX E F l t' H' k) (fun v H'=>k (.pan v) .nil H')) (vT t d (.tup []) fun t'=>yX E F l t' H k):=by
 cases op<;>exact propext Iff.rfl
theorem qq(i:Nat)(o:qc)(l:List (Nat×qc)):look i ((i,o)::l)=some o:=by simp[look]
theorem qe{i j:Nat}(h:i≠j)(o:qc)(l:List (Nat×qc)):look i ((j,o)::l)=look i l:=by simp[look,h]
theorem uQ(i n:Nat)(o o':qc)(l:List (Nat×qc)):qa.put ⟨(i,o)::l,n⟩ i o'=⟨(i,o')::l,n⟩:=by simp[qa.put,qy]
theorem gg(i:Nat)(o o':qc)(l:List (Nat×qc)):qy i o' ((i,o)::l)=(i,o')::l:=by simp[qy]
theorem uD{i j:Nat}(h:i≠j)(o o':qc)(l:List (Nat×qc)):qy i o' ((j,o)::l)=(j,o)::qy i o' l:=by simp[qy,h]
theorem gf(H:qa)(i:Nat)(o:qc):H.put i o=⟨qy i o H.objs,H.next⟩:=rfl
theorem uG(kk:IntKind)(n:Nat):qX (.sc (.int kk (n:Int)))=some n:=by simp[qX]
end
end Go.Abs
namespace Go.Abs
open Go
theorem Inv.grown{G:qb}{w w':World}{H:qa}(hI:Inv G w H)(hg:w.grownBy w' none):Ext G w G w'/\Inv G w' H:=by
 have hb:∀k,k<w.heap.size->w'.heap[k]? = w.heap[k]?:=fun k hk=>hg.block k hk (by simp)
 have hlt:∀{k:Nat}{o:Obj},w.heap[k]? = some o->k<w.heap.size:=fun h=>(Array.getElem?_eq_some_iff.1 h).1
 have hx:Ext G w G w':=by
  refine⟨hg.os,hg.tape,hg.output,hg.size,rfl,fun k hk=>hb k (hI.hB k hk),Nat.le_refl _,fun _ _=>rfl,fun _ _=>rfl,fun b x hc=>⟨hc,fun v hv=>?_⟩,fun t _ m b c h=>⟨m,b,c,h,Nat.le_refl _,fun _=>⟨rfl,rfl⟩⟩,rfl⟩
  have:b<w.heap.size:=by
   rcases Nat.lt_or_ge b w.heap.size with h|h
   ·exact h
   ·rw[hI.free b x h]at hc;cases hc
  rw[qat (hb b this)];exact hv
 refine⟨hx,Inv.step (W:=fun _ _=>False) (V:=fun _=>False) (fun _=>False) hI hx ⟨fun k vs el fz h=>⟨vs,by rw[hb k (hlt h)];exact h,rfl,fun _ _=>rfl⟩,fun k ob h _ _=>by rw[hb k (hlt h)];exact h⟩
  hI.n (fun b x h=>hI.free b x (Nat.le_trans hg.size h)) (fun b x h=>hI.old b x h) (fun _ _ _ h=>h) (fun _ _ _ _ _ h=>h) (fun _ _ _ h=>h) (fun _ _ _ _=>⟨fun h=>h,fun h=>h⟩) (fun _ _ _=>rfl) ?_ (fun _ _ h=>h.elim)⟩
 intro m es' hm he'
 obtain⟨_,hob⟩:=hI.objs m _ he'
 obtain⟨ents,clock,h1,_⟩:=hob
 refine⟨es',he',Nat.le_refl _,fun _ ents' clock' h'=>⟨ents,clock,h1,?_⟩⟩
 rw[hb _ (hlt h1),h1]at h'
 cases h'
 exact⟨rfl,fun _=>rfl⟩
theorem qzb{P:Program}{E:Env}{f:FuncId}{args:List LV}{H:qa}{v:LV}{S:Res->Prop}(he:qdq P f)(hS:S (.ret v H))
  (h:∀(G:qb)(w:World)(us:Array Value),Inv G w H->uC G w args us->Calls P f us w fun e w'=>∃u,e=.returned u/\VR G w' v u/\w.grownBy w' none):qZ P E f args H S:=by
 refine⟨he,fun G w us hI _ ha=>(h G w us hI ha).mono fun e w' hw=>?_⟩
 obtain⟨u,rfl,hv,hg⟩:=hw
 obtain⟨hx,hI'⟩:=hI.grown hg
 exact⟨v,H,G,hS,hv,hI',hx⟩
theorem qaS.of_calls{P:Program}{E:Env}{F:Fns}(hF:∀f args H S,qZ P E f args H S->F.prim f args H S){f:FuncId}{args:List LV}{v:LV}(he:qdq P f)
  (h:∀(G:qb)(w:World)(us:Array Value),uC G w args us->Calls P f us w fun e w'=>∃u,e=.returned u/\VR G w' v u/\w.grownBy w' none):qaS E F f args v:=by
 intro H kv kp hk hH
 exact .prim (hF _ _ _ _ (qzb (v:=v) he (.inl ⟨v,H,rfl,hH,hk H.next (Nat.le_refl _)⟩) fun G w us _ ha=>h G w us ha))
theorem qaS.of_callsE{P:Program}{E:Env}{F:Fns}(hF:∀f args H S,qZ P E f args H S->F.prim f args H S){f:FuncId}{args:List LV}{v:LV}(he:qdq P f)
  (h:∀(G:qb)(w:World)(us:Array Value),jh E G w->uC G w args us->Calls P f us w fun e w'=>∃u,e=.returned u/\VR G w' v u/\w.grownBy w' none):qaS E F f args v:=by
 intro H kv kp hk hH
 refine .prim (hF _ _ _ _ ⟨he,fun G w us hI hE ha=>(h G w us hE ha).mono fun e w' hw=>?_⟩)
 obtain⟨u,rfl,hv,hg⟩:=hw
 obtain⟨hx,hI'⟩:=hI.grown hg
 exact⟨v,H,G,.inl ⟨v,H,rfl,hH,hk H.next (Nat.le_refl _)⟩,hv,hI',hx⟩
theorem qeO(w:World):w.grownBy w none:=⟨rfl,rfl,rfl,Nat.le_refl _,fun _ _ _=>rfl⟩
end Go.Abs
namespace Go.Abs
open Go
inductive Bel (n:Nat):LV->Prop
 |sc (v:Value):Bel n (.sc v)
 |bot:Bel n .bot
 |agg {cs:List LV}:(∀(i:Nat)(c:LV),cs[i]? = some c->Bel n c)->Bel n (.agg cs)
 |tup {cs:List LV}:(∀(i:Nat)(c:LV),cs[i]? = some c->Bel n c)->Bel n (.tup cs)
 |sl {es:List LV} {own:Own}:(∀(i:Nat)(e:LV)(j:Nat)(c:LV),es[i]? = some e->e.cells[j]? = some c->Bel n c)->(∀t,own=.tok t->t<n)->Bel n (.sl es own)
 |asl {o off len:Nat}:o<n->Bel n (.asl o off len)
 |ptr {o off:Nat}:o<n->Bel n (.ptr o off)
 |cptr {cs:List LV} {off:Nat}:(∀(j:Nat)(c:LV),cs[j]? = some c->Bel n c)->Bel n (.cptr cs off)
 |map {o:Nat}:o<n->Bel n (.map o)
 |fn {f:Fn} {a c:List LV}:qdO n f->(∀(i:Nat)(x:LV),a[i]? = some x->Bel n x)->(∀(i:Nat)(x:LV),c[i]? = some x->Bel n x)->Bel n (.fn f a c)
 |iface {t:TypeId} {x:LV}:Bel n x->Bel n (.iface t x)
theorem Bel.mono{n m:Nat}{x:LV}(h:Bel n x)(hm:n<=m):Bel m x:=by
 induction h with
 |sc v=>exact .sc v
 |bot=>exact .bot
 |agg _ ih=>exact .agg ih
 |tup _ ih=>exact .tup ih
 |sl _ ho ih=>exact .sl ih (fun t ht=>Nat.lt_of_lt_of_le (ho t ht) hm)
 |asl h=>exact .asl (Nat.lt_of_lt_of_le h hm)
 |ptr h=>exact .ptr (Nat.lt_of_lt_of_le h hm)
 |cptr _ ih=>exact .cptr ih
 |map h=>exact .map (Nat.lt_of_lt_of_le h hm)
 |fn hf _ _ ih1 ih2=>exact .fn (qpX hf hm) ih1 ih2
 |iface _ ih=>exact .iface ih
def qb.low(G:qb)(n:Nat):qb:=⟨G.B,n,G.loc,G.asz,G.tk,G.own,G.rc⟩
theorem vt.bel{G:qb}{own:Own}{base:Option Addr}{l c:Nat}(h:vt G own base l c):∀t,own=.tok t->t<G.n:=by
 rintro t rfl;exact h.1
theorem vt.low{G:qb}{n:Nat}{own:Own}{base:Option Addr}{l c:Nat}(h:vt G own base l c)(hb:∀t,own=.tok t->t<n):vt (G.low n) own base l c:=by
 cases own with
 |no=>exact trivial
 |full=>exact h
 |tok t=>exact⟨hb t rfl,h.2⟩
theorem VR.bel{G:qb}{w:World}{x:LV}{v:Value}(h:VR G w x v):Bel G.n x:=by
 induction h with
 |sc v=>exact .sc v
 |bot v=>exact .bot
 |agg _ _ _ ih=>exact .agg ih
 |tup _ _ ih=>exact .tup ih
 |sl _ _ _ _ ho ih=>exact .sl ih ho.bel
 |sln ho=>exact .sl (fun i e j c h=>by simp at h) ho.bel
 |sle a=>exact .sl (fun i e j c h=>by simp at h) (fun t h=>by cases h)
 |asl ho _ _=>exact .asl ho
 |ptr ho=>exact .ptr ho
 |cptr _ _ ih=>exact .cptr ih
 |map ho=>exact .map ho
 |fn hf _ _ _ _ ih1 ih2=>exact .fn hf ih1 ih2
 |iface _ ih=>exact .iface ih
theorem VR.low{G:qb}{w:World}{n:Nat}{x:LV}{v:Value}(h:VR G w x v):Bel n x->VR (G.low n) w x v:=by
 induction h with
 |sc v=>exact fun _=>.sc v
 |bot v=>exact fun _=>.bot v
 |agg hs _ h1 ih=>intro hb;cases hb with|agg hb=>exact .agg hs (fun i c hc=>ih i c hc (hb i c hc)) h1
 |tup hs _ ih=>intro hb;cases hb with|tup hb=>exact .tup hs (fun i c hc=>ih i c hc (hb i c hc))
 |sl hc hz hx _ ho ih=>intro hb;cases hb with|sl hb ho'=>exact .sl hc hz hx (fun i e j c h1 h2=>ih i e j c h1 h2 (hb i e j c h1 h2)) (ho.low ho')
 |sln ho=>intro hb;cases hb with|sl _ ho'=>exact .sln (ho.low ho')
 |sle a=>exact fun _=>.sle a
 |asl ho hl hc=>intro hb;cases hb with|asl hb=>exact .asl (G:=qb.low _ n) hb hl hc
 |ptr ho=>intro hb;cases hb with|ptr hb=>exact .ptr (G:=qb.low _ n) hb
 |cptr hx _ ih=>intro hb;cases hb with|cptr hb=>exact .cptr hx (fun j c h=>ih j c h (hb j c h))
 |map ho=>intro hb;cases hb with|map hb=>exact .map (G:=qb.low _ n) hb
 |fn hf h1 h2 _ _ ih1 ih2=>intro hb;cases hb with|fn hbf hb1 hb2=>exact .fn (G:=qb.low _ n) hbf h1 h2 (fun i x h=>ih1 i x h (hb1 i x h)) (fun i x h=>ih2 i x h (hb2 i x h))
 |iface _ ih=>intro hb;cases hb with|iface hb=>exact .iface (ih hb)
theorem jg.low{G G':qb}{w w':World}{H H':qa}{o:Nat}{ob:qc}(h0:jg G w H o ob)(h:jg G' w' H' o ob)(hobj:H'.objs=H.objs):jg (G'.low G.n) w' H o ob:=by
 have mapc:∀es:List (LV×LV),qab G w o es->∀es',es'.Perm es->qab G' w' o es'->qab (G'.low G.n) w' o es':=by
  rintro es ⟨ents0,clock0,_,_,_,hsz0,k0,_⟩ es' hp ⟨ents,clock,h1,h2,h3,h4,h5,h6⟩
  refine⟨ents,clock,h1,h2,h3,h4,fun i kv e hi he=>?_,h6⟩
  obtain⟨v1,v2⟩:=h5 i kv e hi he
  obtain⟨j,hj⟩:=List.mem_iff_getElem?.1 (hp.mem_iff.1 (List.mem_iff_getElem?.2 ⟨i,hi⟩))
  have hjl:j<ents0.size:=by rw[hsz0];exact(List.getElem?_eq_some_iff.1 hj).1
  obtain⟨b1,b2⟩:=k0 j kv ents0[j] hj (Array.getElem?_eq_getElem hjl)
  exact⟨v1.low b1.bel,v2.low b2.bel⟩
 cases ob with
 |cells cs=>
  obtain⟨vs0,el0,fz0,_,_,_,_,_,k0⟩:=h0
  obtain⟨vs,el,fz,h1,h2,h3,h4,h5,h6⟩:=h
  exact⟨vs,el,fz,h1,h2,h3,h4,h5,fun i c hc=>⟨(h6 i c hc).1.low (k0 i c hc).1.bel,(h6 i c hc).2⟩⟩
 |arr sz cs=>
  obtain⟨vs0,el0,fz0,_,_,_,_,_,_,k0⟩:=h0
  obtain⟨vs,el,fz,h1,h2,h3,h3',h4,h5,h6⟩:=h
  exact⟨vs,el,fz,h1,h2,h3,h3',h4,h5,fun i c hc=>⟨(h6 i c hc).1.low (k0 i c hc).1.bel,(h6 i c hc).2⟩⟩
 |map es=>exact mapc es h0 es (List.Perm.refl _) h
 |um es=>
  obtain⟨es0,hp0,h0⟩:=h0
  obtain⟨es1,hp1,h1⟩:=h
  exact⟨es1,hp1,mapc es0 h0 es1 (hp1.trans hp0.symm) h1⟩
 |iter m left cur n=>
  obtain⟨_,_,k3⟩:=h0
  obtain⟨h1,h2,h3⟩:=h
  refine⟨h1,h2,?_⟩
  split at h3
  ·rename_i hm
   rw[if_pos hm];exact h3
  ·rename_i hm
   rw[if_neg hm]at k3 ⊢
   obtain⟨_,_,_,km,_⟩:=k3
   rw[hobj]at h3
   obtain⟨seen,stepped,q1,_,q3⟩:=h3
   exact⟨seen,stepped,q1,km,q3⟩
 |tok n sz=>exact h
 |bld tb te l=>exact h
 |dfr=>exact h
 |rcd busy fo ps k=>
  obtain⟨fn0,tmps0,df0,g1,g2,g3,g4,g5⟩:=h0
  obtain⟨fn,tmps,df,h1,h2,h3,h4,h5⟩:=h
  exact⟨fn,tmps,df,h1,h2,h3,h4,fun i x hi=>(h5 i x hi).low ((g5 i x hi).bel)⟩
theorem qZ.low{P:Program}{E:Env}{f:FuncId}{args:List LV}{H:qa}{v:LV}{S:Res->Prop}(h:qZ P E f args H fun r=>∃n,r=.ret v ⟨H.objs,n⟩)(hv:Bel 0 v)(hS:S (.ret v H)):qZ P E f args H S:=by
 refine⟨h.1,fun G w us hI hE ha=>(h.2 G w us hI hE ha).mono fun e w' hp=>?_⟩
 cases e with
 |outgrown=>exact hp.elim
 |panicked ch=>
  obtain⟨_,_,_,_,⟨n,hn⟩,_⟩:=hp
  cases hn
 |returned u=>
  obtain⟨v',H',G',⟨n,hn⟩,hV,hI',hx⟩:=hp
  cases hn
  refine⟨v,H,G'.low G.n,hS,hV.low (hv.mono (Nat.zero_le _)),⟨hI.n,hI'.hB,hI'.free,hI'.old,fun o x ho=>?_⟩,?_⟩
  ·obtain⟨h1,h2⟩:=hI.objs o x ho
   exact⟨h1,jg.low h2 (hI'.objs o x ho).2 rfl⟩
  ·exact⟨hx.os,hx.tape,hx.output,hx.size,hx.hB,hx.block,Nat.le_refl _,hx.loc,hx.asz,hx.cl,hx.tk,hx.rc⟩
def OBel(n:Nat):qc->Prop
 |.cells cs=>∀(i:Nat)(c:LV),cs[i]? = some c->Bel n c
 |.arr _ cs=>∀(i:Nat)(c:LV),cs[i]? = some c->Bel n c
 |.map es=>∀(i:Nat)(kv:LV×LV),es[i]? = some kv->Bel n kv.1/\Bel n kv.2
 |.um es=>∀(i:Nat)(kv:LV×LV),es[i]? = some kv->Bel n kv.1/\Bel n kv.2
 |.iter m _ _ _=>m<n
 |.tok _ _=>True
 |.bld _ _ _=>True
 |.rcd _ fo _ _=>∀(i:Nat)(x:LV),fo[i]? = some x->Bel n x
 |.dfr=>True
theorem jg.low2{G:qb}{w:World}{H H':qa}{n o:Nat}{ob:qc}(h:jg G w H o ob)(hb:OBel n ob)(hobj:H'.objs=H.objs):jg (G.low n) w H' o ob:=by
 have mapc:∀es:List (LV×LV),(∀(i:Nat)(kv:LV×LV),es[i]? = some kv->Bel n kv.1/\Bel n kv.2)->qab G w o es->qab (G.low n) w o es:=by
  rintro es hbs ⟨ents,clock,h1,h2,h3,h4,h5,h6⟩
  exact⟨ents,clock,h1,h2,h3,h4,fun i kv e hi he=>⟨(h5 i kv e hi he).1.low (hbs i kv hi).1,(h5 i kv e hi he).2.low (hbs i kv hi).2⟩,h6⟩
 cases ob with
 |cells cs=>
  obtain⟨vs,el,fz,h1,h2,h3,h4,h5,h6⟩:=h
  exact⟨vs,el,fz,h1,h2,h3,h4,h5,fun i c hc=>⟨(h6 i c hc).1.low (hb i c hc),(h6 i c hc).2⟩⟩
 |arr sz cs=>
  obtain⟨vs,el,fz,h1,h2,h3,h3',h4,h5,h6⟩:=h
  exact⟨vs,el,fz,h1,h2,h3,h3',h4,h5,fun i c hc=>⟨(h6 i c hc).1.low (hb i c hc),(h6 i c hc).2⟩⟩
 |map es=>exact mapc es hb h
 |um es=>
  obtain⟨es1,hp1,h1⟩:=h
  refine⟨es1,hp1,mapc es1 (fun i kv hi=>?_) h1⟩
  obtain⟨j,hj⟩:=List.mem_iff_getElem?.1 (hp1.mem_iff.1 (List.mem_iff_getElem?.2 ⟨i,hi⟩))
  exact hb j kv hj
 |iter m left cur k=>
  obtain⟨h1,h2,h3⟩:=h
  refine⟨h1,h2,?_⟩
  split at h3
  ·rename_i hm
   rw[if_pos hm];exact h3
  ·rename_i hm
   rw[if_neg hm,hobj]
   obtain⟨seen,stepped,q1,_,q3⟩:=h3
   exact⟨seen,stepped,q1,hb,q3⟩
 |tok n sz=>exact h
 |bld tb te l=>exact h
 |dfr=>exact h
 |rcd busy fo ps k=>
  obtain⟨fn,tmps,df,h1,h2,h3,h4,h5⟩:=h
  exact⟨fn,tmps,df,h1,h2,h3,h4,fun i x hi=>(h5 i x hi).low (hb i x hi)⟩
theorem qZ.low2{P:Program}{E:Env}{f:FuncId}{args:List LV}{H:qa}{v:LV}{ob:List (Nat×qc)}{n0:Nat}{S:Res->Prop}(h:qZ P E f args H fun r=>∃n,r=.ret v ⟨ob,n⟩)
  (hn:H.next<=n0) (hv:Bel n0 v) (ho:∀o x,look o ob=some x->look o H.objs=some x\/(o<n0/\OBel n0 x)) (hS:S (.ret v ⟨ob,n0⟩)):qZ P E f args H S:=by
 refine⟨h.1,fun G w us hI hE ha=>(h.2 G w us hI hE ha).mono fun e w' hp=>?_⟩
 cases e with
 |outgrown=>exact hp.elim
 |panicked ch=>
  obtain⟨_,_,_,_,⟨n,hn⟩,_⟩:=hp
  cases hn
 |returned u=>
  obtain⟨v',H',G',⟨n,hn'⟩,hV,hI',hx⟩:=hp
  cases hn'
  have hGn:G.n<=n0:=Nat.le_trans hI.n hn
  refine⟨v,⟨ob,n0⟩,G'.low n0,hS,hV.low hv,⟨Nat.le_refl _,hI'.hB,hI'.free,hI'.old,fun o x hl=>?_⟩,?_⟩
  ·have h2:=(hI'.objs o x hl).2
   rcases ho o x hl with h0|⟨h0,hb⟩
   ·obtain⟨h1,h3⟩:=hI.objs o x h0
    refine⟨Nat.lt_of_lt_of_le h1 hGn,h2.low2 ?_ rfl⟩
    cases x with
    |cells cs=>obtain⟨vs0,el0,fz0,_,_,_,_,_,k0⟩:=h3;exact fun i c hc=>(k0 i c hc).1.bel.mono hGn
    |arr sz cs=>obtain⟨vs0,el0,fz0,_,_,_,_,_,_,k0⟩:=h3;exact fun i c hc=>(k0 i c hc).1.bel.mono hGn
    |map es=>
     obtain⟨ents,clock,_,_,_,hsz,k0,_⟩:=h3
     intro i kv hi
     have hl:i<ents.size:=by rw[hsz];exact(List.getElem?_eq_some_iff.1 hi).1
     obtain⟨b1,b2⟩:=k0 i kv ents[i] hi (Array.getElem?_eq_getElem hl)
     exact⟨b1.bel.mono hGn,b2.bel.mono hGn⟩
    |um es=>
     obtain⟨es0,hp0,ents,clock,_,_,_,hsz,k0,_⟩:=h3
     intro i kv hi
     obtain⟨j,hj⟩:=List.mem_iff_getElem?.1 (hp0.symm.mem_iff.1 (List.mem_iff_getElem?.2 ⟨i,hi⟩))
     have hl:j<ents.size:=by rw[hsz];exact(List.getElem?_eq_some_iff.1 hj).1
     obtain⟨b1,b2⟩:=k0 j kv ents[j] hj (Array.getElem?_eq_getElem hl)
     exact⟨b1.bel.mono hGn,b2.bel.mono hGn⟩
    |iter m left cur k=>
     obtain⟨_,_,k3⟩:=h3
     split at k3
     ·rename_i hm
      show m<n0
      rw[hm];omega
     ·obtain⟨_,_,_,km,_⟩:=k3
      exact Nat.lt_of_lt_of_le km hGn
    |tok n sz=>exact trivial
    |bld tb te l=>exact trivial
    |dfr=>exact trivial
    |rcd busy fo ps k=>obtain⟨_,_,_,_,_,_,_,k0⟩:=h3;exact fun i x hi=>(k0 i x hi).bel.mono hGn
   ·exact⟨h0,h2.low2 hb rfl⟩
  ·exact⟨hx.os,hx.tape,hx.output,hx.size,hx.hB,hx.block,hGn,hx.loc,hx.asz,hx.cl,hx.tk,hx.rc⟩
def qlP(E:Env)(F:Fns)(f:FuncId)(args:List LV)(v:LV):Prop:=∀(H:qa)(kv kp:HP),kv v H->cP E F f args H kv kp
theorem qlP.of{P:Program}{E:Env}{F:Fns}(hmix:P.follows .mixedOrders=true)(hF:qft P E F)(hprim:∀f args H S,qZ P E f args H S->F.prim f args H S){f:FuncId}{args:List LV}{v:LV}
  (h:qaS E F f args v) (hv:Bel 0 v):qlP E F f args v:=by
 intro H kv kp hk hH
 have h1:Out E F (.call f args H) fun r=>∃n,r=.ret v ⟨H.objs,n⟩:=by
  refine .mono (h H (fun u H'=>u=v/\∃n,H'=⟨H.objs,n⟩) (fun _ _=>False) (fun n _=>⟨rfl,n,rfl⟩) hH) fun r hr=>?_
  rcases hr with⟨u,H',rfl,_,rfl,n,rfl⟩|⟨u,H',rfl,_,hf⟩
  ·exact⟨n,rfl⟩
  ·exact hf.elim
 have h2:qZ P E f args H fun r=>∃n,r=.ret v ⟨H.objs,n⟩:=qag hmix hF h1
 exact .prim (hprim _ _ _ _ (h2.low hv (.inl ⟨v,H,rfl,hH,hk⟩)))
theorem qZ.inv{P:Program}{E:Env}{f:FuncId}{args:List LV}{H:qa}{S T:Res->Prop}(h:qZ P E f args H T)
  (hr:∀v H' G' w',T (.ret v H')->Inv G' w' H'->∃H'',Inv G' w' H''/\S (.ret v H'')) (hp:∀v H',T (.pan v H')->S (.pan v H')):qZ P E f args H S:=by
 refine⟨h.1,fun G w us hI hE ha=>(h.2 G w us hI hE ha).mono fun e w' hq=>?_⟩
 cases e with
 |outgrown=>exact hq.elim
 |panicked ch=>
  obtain⟨v,u,H',G',hT,h1,h2,h3,h4⟩:=hq
  exact⟨v,u,H',G',hp _ _ hT,h1,h2,h3,h4⟩
 |returned u=>
  obtain⟨v,H',G',hT,hV,hI',hx⟩:=hq
  obtain⟨H'',h1,h2⟩:=hr v H' G' w' hT hI'
  exact⟨v,H'',G',h2,hV,h1,hx⟩
theorem qzd{E:Env}{F:Fns}{b:BFn}{f:FuncId}{args:List LV}{H:qa}{kv kp:HP}{o:Nat}{es:List (LV×LV)}(hf:F.fn f b)(nodrw:∀l,b.body≠.drw l)(hl:look o H.objs=some (.um es))
  (hno:∀i m l k n,look i H.objs=some (.iter m l k n)->m≠o)
  (h:H.Ok->∀es',es'.Perm es->fnP E F b args (H.put o (.map es')) (fun v H'=>∃H'',HWk H' H''/\(H'.Ok->H''.Ok)/\kv v H'') kp):cP E F f args H kv kp:=by
 intro hH
 have hn:args.length<=b.n:=(h hH es (List.Perm.refl _)).1
 have hb:Out E F (.code b.body (zz args) [] H) (XSP (qeW E b (fun v H'=>∃H'',HWk H' H''/\(H'.Ok->H''.Ok)/\kv v H'') kp)):=by
  refine .ofUm nodrw hl hno fun es' hp=>?_
  obtain⟨_,h⟩:=h hH es' hp
  obtain⟨t,h1,h2⟩:=qgN h
  have ht:t.get=zz args:=by
   funext j
   rw[h2 j]
   simp only[zz]
   by_cases hj:j<args.length
   ·rw[if_pos (by omega)];simp
   ·rw[if_neg (by omega)]
    have:args[j]? = none:=List.getElem?_eq_none (by omega)
    simp[List.getD_eq_getElem?_getD,this,FT.get_nil]
  have:=qbv b.body t (H.put o (.map es')) _ (qx.put hH) h1
  rwa [ht]at this
 refine .enter hf hn hb (fun fr df H' hT=>?_) (fun v fr df H' hT=>?_) (fun n fr df H' hT=>?_)
 ·have:∃(t':FT),fr=t'.get/\df=[]/\H'.Ok/\vU E b.res t' H' fun v=>∃H'',HWk H' H''/\(H'.Ok->H''.Ok)/\kv v H'':=by
   rcases hT with⟨e,t',H'',he,hok,hk⟩|⟨e,t',H'',he,hok,hk⟩<;>cases he
   ·exact⟨t',rfl,rfl,hok,hk⟩
   ·exact⟨t',rfl,rfl,hok,hk⟩
  obtain⟨t',rfl,rfl,hok,v,hv,H1,h3,h4,h5⟩:=this
  exact⟨rfl,v,v,H1,hv,.inl rfl,h3,.inl ⟨v,H1,rfl,h4 hok,h5⟩⟩
 ·obtain⟨e,t',H'',he,hok,hk⟩:=hT
  cases he
  exact⟨rfl,v,H',.inl rfl,⟨Nat.le_refl _,fun _ _ h=>h⟩,.inr ⟨v,H',rfl,hok,hk⟩⟩
 ·obtain⟨e,t',H'',he,hok,hk⟩:=hT
  cases he
  cases hk
end Go.Abs
namespace Go.Abs
open Go
theorem Inv.grownCl{G:qb}{w w':World}{H:qa}(hI:Inv G w H)(hg:w.grownBy w' none){g:Nat}(h1:w.heap.size<=g)(h2:g<w'.heap.size):
  ∃G',Ext G w G' w'/\Inv G' w' H/\∀x,G'.Cl g x:=by
 have hb:∀k,k<w.heap.size->w'.heap[k]? = w.heap[k]?:=fun k hk=>hg.block k hk (by simp)
 have hlt:∀{k:Nat}{o:Obj},w.heap[k]? = some o->k<w.heap.size:=fun h=>(Array.getElem?_eq_some_iff.1 h).1
 let G':qb:=⟨G.B,G.n,G.loc,G.asz,G.tk,fun b x=>if b=g then .cl else G.own b x,G.rc⟩
 have hne:∀{b x:Nat}{l:Lab},G.own b x=l->l≠.free->b≠g:=by
  intro b x l h hl e
  subst e
  rw[hI.free b x h1]at h
  exact hl h.symm
 have hx:Ext G w G' w':=by
  refine⟨hg.os,hg.tape,hg.output,hg.size,rfl,fun k hk=>hb k (hI.hB k hk),Nat.le_refl _,fun _ _=>rfl,fun _ _=>rfl,fun b x hc=>⟨?_,fun v hv=>?_⟩,fun t _ m b c h=>⟨m,b,c,h,Nat.le_refl _,fun _=>⟨rfl,rfl⟩⟩,rfl⟩
  ·show (if b=g then Lab.cl else G.own b x)=.cl
   rw[if_neg (hne hc (by simp))];exact hc
  ·have:b<w.heap.size:=by
    rcases Nat.lt_or_ge b w.heap.size with h|h
    ·exact h
    ·rw[hI.free b x h]at hc;cases hc
   rw[qat (hb b this)];exact hv
 refine⟨G',hx,Inv.step (W:=fun _ _=>False) (V:=fun _=>False) (fun _=>False) hI hx ⟨fun k vs el fz h=>⟨vs,by rw[hb k (hlt h)];exact h,rfl,fun _ _=>rfl⟩,fun k ob h _ _=>by rw[hb k (hlt h)];exact h⟩
  hI.n (fun b x h=>?_) (fun b x h=>?_) (fun _ _ _ h=>h) (fun _ _ _ _ _ h=>h) (fun _ _ _ h=>h) (fun i k x _=>⟨fun h=>?_,fun h=>?_⟩) (fun _ _ _=>rfl) ?_ (fun _ _ h=>h.elim),fun x=>.inr (by show (if g=g then Lab.cl else G.own g x)=.cl;rw[if_pos rfl])⟩
 ·show (if b=g then Lab.cl else G.own b x)=.free
  rw[if_neg (by omega)];exact hI.free b x (Nat.le_trans hg.size h)
 ·show (if b=g then Lab.cl else G.own b x)=.free
  rw[if_neg (fun e=>by subst e;have:=hI.hB b h;omega)];exact hI.old b x h
 ·show (if k=g then Lab.cl else G.own k x)=_
  rw[if_neg (hne h (by simp))];exact h
 ·show (if k=g then Lab.cl else G.own k x)=_
  rw[if_neg (hne h (by simp))];exact h
 ·intro m es' hm he'
  obtain⟨_,hob⟩:=hI.objs m _ he'
  obtain⟨ents,clock,h1,_⟩:=hob
  refine⟨es',he',Nat.le_refl _,fun _ ents' clock' h'=>⟨ents,clock,h1,?_⟩⟩
  rw[hb _ (hlt h1),h1]at h'
  cases h'
  exact⟨rfl,fun _=>rfl⟩
theorem qrx{P:Program}{E:Env}{f:FuncId}{args:List LV}{H:qa}{zs:List Int}{S:Res->Prop}(he:qdq P f)(hS:S (.ret (.sl (zs.map fun z=>.int z) .no) H))
  (h:∀(G:qb)(w:World)(us:Array Value),Inv G w H->uC G w args us->Calls P f us w fun e w'=>∃v,e=.returned v/\w.grownBy w' none /\
   ((v=.slice none 0 0/\zs=[])\/∃g cap,v=.slice (some (at_ g 0)) zs.length cap/\w.heap.size<=g/\g<w'.heap.size/\zs.length<=cap/\∀i z,zs[i]? = some z->w'.cell? (at_ g i)=some (.int .i64 z))):qZ P E f args H S:=by
 refine⟨he,fun G w us hI _ ha=>(h G w us hI ha).mono fun e w' hw=>?_⟩
 obtain⟨v,rfl,hg,hc⟩:=hw
 rcases hc with⟨rfl,rfl⟩|⟨g,cap,rfl,h1,h2,h3,h4⟩
 ·obtain⟨hx,hI'⟩:=hI.grown hg
  exact⟨_,H,G,hS,.sln trivial,hI',hx⟩
 ·obtain⟨G',hx,hI',hcl⟩:=hI.grownCl hg h1 h2
  have hl:(zs.map fun z=>LV.int z).length=zs.length:=List.length_map _
  have hget:∀(i:Nat)(e:LV),(zs.map fun z=>LV.int z)[i]? = some e->∃z,zs[i]? = some z/\e=.int z:=by
   intro i e h
   rw[List.getElem?_map]at h
   obtain⟨z,hz,rfl⟩:=Option.map_eq_some_iff.1 h
   exact⟨z,hz,rfl⟩
  refine⟨_,H,G',hS,?_,hI',hx⟩
  rw[<-hl]
  refine .sl (sz:=1) (xs:=fun i _=>.int .i64 (zs.getD i 0)) (by rw[hl];exact h3) (fun i e h=>?_) (fun i e j c h hj=>?_) (fun i e j c h hj=>?_) trivial
  ·obtain⟨z,_,rfl⟩:=hget i e h;rfl
  ·obtain⟨z,hz,rfl⟩:=hget i e h
   match j,hj with
   |0,_=>
    refine⟨hcl _,?_,rfl⟩
    rw[List.getD_eq_getElem?_getD,hz]
    simpa using h4 i z hz
   |j+1,hj=>simp[LV.cells]at hj
  ·obtain⟨z,hz,rfl⟩:=hget i e h
   match j,hj with
   |0,hj=>
    simp[LV.cells]at hj;subst hj
    rw[List.getD_eq_getElem?_getD,hz]
    exact .sc _
   |j+1,hj=>simp[LV.cells]at hj
end Go.Abs
namespace Go.Abs.Tz
open Go Go.Abs
section
variable{α:Type}(lt:α->α->Bool)
def wD:List α->Nat->List α
 |A,0=>A
 |A,j+1=>match A[j+1]?,A[j]? with
  |some x,some y=>if lt x y then wD ((A.set (j+1) y).set j x) j else A
  |_,_=>A
def we:Nat->Nat->List α->List α
 |0,_,A=>A
 |k+1,i,A=>we k (i+1) (wD lt A i)
theorem qjA:∀(j:Nat)(A:List α),(wD lt A j).Perm A
 |0,A=>by unfold wD;exact .refl _
 |j+1,A=>by
  unfold wD
  split
  ·rename_i x y hx hy
   split
   ·refine(qjA j _).trans ?_
    have h1:=(List.getElem?_eq_some_iff.1 hx)
    have h2:=(List.getElem?_eq_some_iff.1 hy)
    obtain⟨h1,rfl⟩:=h1
    obtain⟨h2,rfl⟩:=h2
    exact List.set_set_perm h1 h2
   ·exact .refl _
  ·exact .refl _
theorem qnB(j:Nat)(A:List α):(wD lt A j).length=A.length:=(qjA lt j A).length_eq
theorem qeK:∀(k i:Nat)(A:List α),(we lt k i A).Perm A
 |0,_,A=>.refl _
 |k+1,i,A=>(qeK k (i+1) _).trans (qjA lt i A)
def qeh(A:List α)(n:Nat):Prop:=∀i x y,i+1<n->A[i]? = some x->A[i+1]? = some y->lt y x=false
def But(A:List α)(n j:Nat):Prop:=(∀i x y,i+1<n->i+1≠j->A[i]? = some x->A[i+1]? = some y->lt y x=false) /\
 (∀x y,0<j->j+1<n->A[j - 1]? = some x->A[j+1]? = some y->lt y x=false)
theorem qnA(htr:∀a b,lt a b=true->lt b a=false):∀(j n:Nat)(A:List α),j<n->n<=A.length->But lt A n j->qeh lt (wD lt A j) n
 |0,n,A,hj,hn,hb=>by
  unfold wD
  intro i x y hi hx hy
  exact hb.1 i x y hi (by omega) hx hy
 |j+1,n,A,hj,hn,hb=>by
  unfold wD
  have h1:A[j+1]? = some (A[j+1]'(by omega)):=List.getElem?_eq_getElem (by omega)
  have h2:A[j]? = some (A[j]'(by omega)):=List.getElem?_eq_getElem (by omega)
  obtain⟨x,hx⟩:∃x,A[j+1]? = some x:=⟨_,h1⟩
  obtain⟨y,hy⟩:∃y,A[j]? = some y:=⟨_,h2⟩
  rw[hx,hy]
  simp only
  split
  ·rename_i hlt
   have hg:∀k,((A.set (j+1) y).set j x)[k]? = if k=j then some x else if k=j+1 then some y else A[k]?:=by
    intro k
    rw[List.getElem?_set]
    by_cases hk:j=k
    ·subst hk
     rw[if_pos rfl,if_pos rfl,if_pos (by rw[List.length_set];omega)]
    ·rw[if_neg hk,if_neg (fun e=>hk e.symm),List.getElem?_set]
     by_cases hk2:j+1=k
     ·subst hk2
      rw[if_pos rfl,if_pos rfl,if_pos (by omega)]
     ·rw[if_neg hk2,if_neg (fun e=>hk2 e.symm)]
   refine qnA htr j n _ (by omega) (by rw[List.length_set,List.length_set];exact hn) ⟨fun i u v hi hne hu hv=>?_,fun u v h0 hi hu hv=>?_⟩
   ·rw[hg]at hu hv
    by_cases hij:i=j
    ·subst hij
     rw[if_pos rfl]at hu
     rw[if_neg (by omega),if_pos rfl]at hv
     cases hu;cases hv
     exact htr _ _ hlt
    ·rw[if_neg hij]at hu
     rw[if_neg hne]at hv
     by_cases hi1:i=j+1
     ·subst hi1
      rw[if_pos rfl]at hu
      cases hu
      rw[if_neg (by omega)]at hv
      exact hb.2 y v (by omega) (by omega) (by simpa using hy) hv
     ·rw[if_neg hi1]at hu
      rw[if_neg (by omega)]at hv
      exact hb.1 i u v hi (by omega) hu hv
   ·rw[hg]at hu hv
    rw[if_neg (by omega),if_neg (by omega)]at hu
    rw[if_neg (by omega),if_pos rfl]at hv
    cases hv
    have:=hb.1 (j - 1) u y (by omega) (by omega) hu (by rw[show j - 1+1=j by omega];exact hy)
    exact this
  ·rename_i hlt
   intro i u v hi hu hv
   by_cases hij:i+1=j+1
   ·obtain rfl:i=j:=by omega
    rw[hy]at hu;rw[hx]at hv
    cases hu;cases hv
    simpa using hlt
   ·exact hb.1 i u v hi hij hu hv
theorem quH(htr:∀a b,lt a b=true->lt b a=false){i:Nat}{A:List α}(h:qeh lt A i)(hi:i<A.length):qeh lt (wD lt A i) (i+1):=
 qnA lt htr i (i+1) A (Nat.lt_succ_self _) hi ⟨fun k x y hk hne hx hy=>h k x y (by omega) hx hy,fun x y h0 hk _ _=>by omega⟩
theorem qpo(htr:∀a b,lt a b=true->lt b a=false):∀(k i:Nat)(A:List α),qeh lt A i->i+k<=A.length->qeh lt (we lt k i A) (i+k)
 |0,i,A,h,_=>h
 |k+1,i,A,h,hk=>by
  have h1:=quH lt htr h (by omega)
  have:=qpo htr k (i+1) (wD lt A i) h1 (by rw[qnB];omega)
  rw[show i+(k+1)=i+1+k by omega]
  exact this
theorem qmA(htot:∀a b c,lt b a=false->lt c b=false->lt c a=false):∀(A:List α),qeh lt A A.length->A.Pairwise fun x y=>lt y x=false
 |[],_=>.nil
 |[a],_=>by simp
 |a::b::r,h=>by
  have h1:qeh lt (b::r) (b::r).length:=fun i x y hi hx hy=>h (i+1) x y (by simp only[List.length_cons]at hi ⊢;omega) (by simpa using hx) (by simpa using hy)
  have ih:=qmA htot (b::r) h1
  have hab:lt b a=false:=h 0 a b (by simp) rfl rfl
  rw[List.pairwise_cons]
  refine⟨fun c hc=>?_,ih⟩
  rcases List.mem_cons.1 hc with rfl|hc
  ·exact hab
  ·exact htot a b c hab ((List.pairwise_cons.1 ih).1 c hc)
theorem qkl{le:α->α->Prop}:∀{l m:List α},l.Perm m->l.Pairwise le->m.Pairwise le->(∀a∈l,∀b∈l,le a b->le b a->a=b)->l=m
 |[],m,hp,_,_,_=>hp.symm.eq_nil.symm
 |a::l,m,hp,hl,hm,ha=>by
  cases m with
  |nil=>exact absurd hp.eq_nil (by simp)
  |cons b m=>
   have hab:a=b:=by
    rcases List.mem_cons.1 (hp.mem_iff.1 (List.mem_cons_self)) with h|h
    ·exact h
    ·rcases List.mem_cons.1 (hp.mem_iff.2 (List.mem_cons_self (a:=b) (l:=m))) with h'|h'
     ·exact h'.symm
     ·exact ha a (List.mem_cons_self) b (List.mem_cons_of_mem _ h') ((List.pairwise_cons.1 hl).1 b h') ((List.pairwise_cons.1 hm).1 a h)
   subst hab
   rw[qkl (List.perm_cons a |>.1 hp) (List.pairwise_cons.1 hl).2 (List.pairwise_cons.1 hm).2 fun x hx y hy=>ha x (List.mem_cons_of_mem _ hx) y (List.mem_cons_of_mem _ hy)]
end
end Go.Abs.Tz
namespace Go.Abs.Tz
open Go Go.Abs
section
variable{α:Type}{enc:α->List LV}{s:Nat}
theorem qdc(he:∀x,(enc x).length=s):∀A:List α,(A.flatMap enc).length=A.length*s
 |[]=>by simp
 |a::A=>by rw[List.flatMap_cons,List.length_append,qdc he A,he,List.length_cons,Nat.add_mul];omega
theorem qle(he:∀x,(enc x).length=s):∀(A:List α)(j:Nat),(A.flatMap enc).drop (j*s)=(A.drop j).flatMap enc
 |A,0=>by simp
 |[],j+1=>by simp
 |a::A,j+1=>by
  rw[List.flatMap_cons,List.drop_succ_cons,<-qle he A j]
  rw[show (j+1)*s=(enc a).length+j*s by rw[he,Nat.add_mul];omega,<-List.drop_drop,List.drop_left]
theorem qpZ(he:∀x,(enc x).length=s):∀(A:List α)(j:Nat),(A.flatMap enc).take (j*s)=(A.take j).flatMap enc
 |A,0=>by simp
 |[],j+1=>by simp
 |a::A,j+1=>by
  rw[List.flatMap_cons,List.take_succ_cons,List.flatMap_cons,<-qpZ he A j]
  rw[show (j+1)*s=(enc a).length+j*s by rw[he,Nat.add_mul];omega,List.take_length_add_append]
theorem qld(he:∀x,(enc x).length=s){A:List α}{j:Nat}(hj:j<A.length):((A.flatMap enc).drop (j*s)).take s=enc A[j]:=by
 rw[qle he,List.drop_eq_getElem_cons hj,List.flatMap_cons]
 have:s=(enc A[j]).length:=(he _).symm
 conv=>lhs;rw[this]
 rw[List.take_left]
theorem qqa(he:∀x,(enc x).length=s){A:List α}{j:Nat}(hj:j<A.length)(x:α):(A.flatMap enc).take (j*s)++enc x++(A.flatMap enc).drop (j*s+s)=(A.set j x).flatMap enc:=by
 rw[show j*s+s=(j+1)*s by rw[Nat.add_mul];omega,qle he,qpZ he,List.set_eq_take_append_cons_drop,if_pos hj,List.flatMap_append,List.flatMap_cons,List.append_assoc]
end
end Go.Abs.Tz
