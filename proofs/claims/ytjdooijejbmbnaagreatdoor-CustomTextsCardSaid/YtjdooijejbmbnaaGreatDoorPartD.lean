/- Part of the proof that for every row of clauses, every atom and every source the law CustomTexts returns true. Conditions: none. -/
import Derived.Test.YtjdooijejbmbnaaGreatDoorPartC
set_option linter.unusedVariables false
set_option linter.unusedSimpArgs false
set_option linter.unusedSectionVars false
namespace Go.Abs
open Go
def FT.one(k:Nat)(v:LV):FT:=if k=0 then .nd v .nil .nil else if k % 2=1 then .nd .bot (FT.one (k / 2) v) .nil else .nd .bot .nil (FT.one (k / 2 - 1) v)
termination_by k
decreasing_by all_goals omega
def FT.set:FT->Nat->LV->FT
 |.nil,k,v=>FT.one k v
 |.nd u l r,k,v=>if k=0 then .nd v l r else if k % 2=1 then .nd u (FT.set l (k / 2) v) r else .nd u l (FT.set r (k / 2 - 1) v)
theorem FT.get_nil(k:Nat):FT.nil.get k=.bot:=rfl
theorem FT.one_get(k:Nat)(v:LV):(FT.one k v).get=upd (fun _=>.bot) k v:=by
 induction k using Nat.strongRecOn with
 |ind k ih=>
  funext j
  rw[FT.one]
  split
  ·rename_i h;subst h
   rw[FT.get_node];simp only[upd,FT.get_nil]
   split
   ·rfl
   ·split<;>rfl
  ·rename_i h0
   split
   ·rename_i h1
    rw[FT.get_node,ih (k / 2) (by omega)]
    simp only[upd,FT.get_nil]
    by_cases hj:j=k
    ·subst hj;simp[h0,h1]
    ·rw[if_neg hj]
     by_cases hj0:j=0
     ·simp[hj0]
     ·by_cases hj1:j % 2=1
      ·have:j / 2≠k / 2:=by omega
       simp[hj0,hj1,this]
      ·simp[hj0,hj1]
   ·rename_i h1
    rw[FT.get_node,ih (k / 2 - 1) (by omega)]
    simp only[upd,FT.get_nil]
    by_cases hj:j=k
    ·subst hj;simp[h0,h1]
    ·rw[if_neg hj]
     by_cases hj0:j=0
     ·simp[hj0]
     ·by_cases hj1:j % 2=1
      ·simp[hj0,hj1]
      ·have:j / 2 - 1≠k / 2 - 1:=by omega
       simp[hj0,hj1,this]
theorem FT.set_get:∀(t:FT)(k:Nat)(v:LV),(t.set k v).get=upd t.get k v
 |.nil,k,v=>by rw[FT.set,FT.one_get];rfl
 |.nd u l r,k,v=>by
  funext j
  rw[FT.set]
  split
  ·rename_i h;subst h
   rw[FT.get_node];simp only[upd,FT.get_node]
   by_cases hj:j=0<;>simp[hj]
  ·rename_i h0
   split
   ·rename_i h1
    rw[FT.get_node,FT.set_get l]
    simp only[upd,FT.get_node]
    by_cases hj:j=k
    ·subst hj;simp[h0,h1]
    ·rw[if_neg hj]
     by_cases hj0:j=0
     ·simp[hj0]
     ·by_cases hj1:j % 2=1
      ·have:j / 2≠k / 2:=by omega
       simp[hj0,hj1,this]
      ·simp[hj0,hj1]
   ·rename_i h1
    rw[FT.get_node,FT.set_get r]
    simp only[upd,FT.get_node]
    by_cases hj:j=k
    ·subst hj;simp[h0,h1]
    ·rw[if_neg hj]
     by_cases hj0:j=0
     ·simp[hj0]
     ·by_cases hj1:j % 2=1
      ·simp[hj0,hj1]
      ·have:j / 2 - 1≠k / 2 - 1:=by omega
       simp[hj0,hj1,this]
def FT.Le:FT->FT->Prop
 |.nil,_=>True
 |.nd v l r,.nd u l' r'=>Wk u v/\FT.Le l l'/\FT.Le r r'
 |.nd v l r,.nil=>v=.bot/\FT.Le l .nil/\FT.Le r .nil
theorem FT.Le.fwk:∀{s t:FT},FT.Le s t->FWk t.get s.get
 |.nil,t,_=>fun k=>.inr (.inr rfl)
 |.nd v l r,.nd u l' r',h=>fun k=>by
  rw[FT.get_node,FT.get_node]
  split
  ·exact h.1
  ·split
   ·exact FT.Le.fwk h.2.1 _
   ·exact FT.Le.fwk h.2.2 _
 |.nd v l r,.nil,h=>fun k=>by
  rw[FT.get_node,FT.get_nil]
  split
  ·exact .inl h.1
  ·split
   ·exact FT.Le.fwk h.2.1 _
   ·exact FT.Le.fwk h.2.2 _
def getP(t:FT)(n:Nat)(k:LV->Prop):Prop:=k (t.get n)
def setP(t:FT)(n:Nat)(v:LV)(k:FT->Prop):Prop:=k (t.set n v)
def oneP(n:Nat)(v:LV)(k:FT->Prop):Prop:=k (FT.one n v)
theorem getP_nil(n:Nat)(k:LV->Prop):getP .nil n k=k .bot:=rfl
theorem getP_node(v:LV)(l r:FT)(n:Nat)(k:LV->Prop):getP (.nd v l r) n k=if n=0 then k v else if n % 2=1 then getP l (n / 2) k else getP r (n / 2 - 1) k:=by
 unfold getP;rw[FT.get_node];split
 ·rfl
 ·split<;>rfl
theorem setP_nil(n:Nat)(v:LV)(k:FT->Prop):setP .nil n v k=oneP n v k:=by unfold setP oneP;rw[FT.set]
theorem setP_node(u:LV)(l r:FT)(n:Nat)(v:LV)(k:FT->Prop):setP (.nd u l r) n v k=if n=0 then k (.nd v l r) else if n % 2=1 then setP l (n / 2) v (fun l'=>k (.nd u l' r)) else setP r (n / 2 - 1) v (fun r'=>k (.nd u l r')):=by
 unfold setP;rw[FT.set];split
 ·rfl
 ·split<;>rfl
theorem oneP_eq(n:Nat)(v:LV)(k:FT->Prop):oneP n v k=if n=0 then k (.nd v .nil .nil) else if n % 2=1 then oneP (n / 2) v (fun l'=>k (.nd .bot l' .nil)) else oneP (n / 2 - 1) v (fun r'=>k (.nd .bot .nil r')):=by
 unfold oneP;rw[FT.one];split
 ·rfl
 ·split<;>rfl
def Tie{α:Sort _}(_:α):Type:=Unit
abbrev XP:=LExit->FT->LHeap->Prop
abbrev HP:=LV->LHeap->Prop
def XSP(k:XP):Res->Prop:=fun r=>∃e t H,r=.code e t.get [] H/\H.Ok/\k e t H
def CSP(kv kp:HP):Res->Prop:=fun r=>(∃v H,r=.ret v H/\H.Ok/\kv v H)\/∃v H,r=.pan v H/\H.Ok/\kp v H
def cP(E:Env)(F:Fns)(f:FuncId)(args:List LV)(H:LHeap)(kv kp:HP)(_:Tie (H,kv,kp):=()):Prop:=H.Ok->Out E F (.call f args H) (CSP kv kp)
def lP(E:Env)(F:Fns)(c:BCode)(t:FT)(H:LHeap)(k:XP)(_:Tie (c,t,k):=()):Prop:=H.Ok->Out E F (.code c t.get [] H) (XSP k)
def vP{α:Type}(o:Option α)(k:α->Prop)(_:Tie k:=()):Prop:=∃v,o=some v/\k v
def eP(o:Option (LV×LHeap))(k:HP)(_:Tie k:=()):Prop:=∃v H,o=some (v,H)/\k v H
def bP(v:LV)(A B:Prop)(_:Tie (A,B):=()):Prop:=(v=.bool true/\A)\/(v=.bool false/\B)
def gP(w:Bool)(v:LV)(yes no:Prop)(_:Tie (yes,no):=()):Prop:=(v=.sc (.bool w)/\yes)\/(v=.sc (.bool (!w))/\no)\/(v=.tup []/\no)
def evP(E:Env)(x:BO)(t:FT)(k:LV->Prop):Prop:=k (E.ev t.get x)
def evsP(E:Env)(xs:List BO)(t:FT)(k:List LV->Prop):Prop:=k (xs.map (E.ev t.get))
def yP(E:Env)(F:Fns)(o:Nat)(args:List LV)(H:LHeap)(kv:HP)(_:Tie (H,kv):=()):Prop:=H.Ok->∃fo ps k ba bb T1 T2,look o H.objs=some (.rcd false fo ps k) /\
 F.rng k fo.length ba bb/\args.length=ps.length/\(ps.all fun p=>decide (p<fo.length))=true/\Out E F (.code ba (setPs (frOf fo) ps args) [] H) T1 /\
 (∀e fr1 df1 H1,T1 (.code e fr1 df1 H1)->e=.normal/\isR o false H1=true) /\
 (∀fr1 df1 H1,T1 (.code .normal fr1 df1 H1)->Out E F (.code bb fr1 [] (busyH o true H1)) T2) /\
 (∀e fr2 df2 H2,T2 (.code e fr2 df2 H2)->leaves e/\isR o true H2=true) /\
 (∀fr2 df2 H2,T2 (.code .normal fr2 df2 H2)->LHeap.Ok (busyH o false H2)/\kv (.bool true) (busyH o false H2)) /\
 (∀j fr2 df2 H2,T2 (.code (exOf j) fr2 df2 H2)->LHeap.Ok (H2.put o (.lft j))/\kv (.bool false) (H2.put o (.lft j)))
def clP(E:Env)(F:Fns)(x:LV)(args:List LV)(H:LHeap)(kv kp:HP)(_:Tie (H,kv,kp):=()):Prop:=(∃f first cap,x=.fn (.func f) first cap/\cP E F f (first++args++cap) H kv kp)\/∃o,x=.fn (.yield o) [] []/\yP E F o args H kv
def clfP(E:Env)(F:Fns)(x:LV)(args:List LV)(H:LHeap)(kv kp:HP)(_:Tie (H,kv,kp):=()):Prop:=∃f first cap,x=.fn (.func f) first cap/\cP E F f (first++args++cap) H kv kp
def pnP(x:LV)(k:LV->Prop):Prop:=∃ty v,x=.iface ty v/\k (.iface ty v)
def valP(E:Env)(op:BOp)(t:FT)(H:LHeap)(k:LV->Prop):Prop:=vP (valB E t.get H op) k
def effP(E:Env)(op:BOp)(t:FT)(H:LHeap)(k:HP):Prop:=eP (effB E t.get H op) k\/eP (effB2 E t.get H op) k
def nxP(E:Env)(x:LV)(H:LHeap)(kv:HP)(_:Tie kv:=()):Prop:=
 ∃o m left k n,x=.ptr o 0/\look o H.objs=some (.iter m left k n) /\
  ((left=[]/\(m=o\/∃es,look m H.objs=some (.map es)/\es.length=n)/\kv (.tup [.bool false]) H) \/
   (left≠[]/\∃es,look m H.objs=some (.map es)/\es.length=n/\∀j q e,left[j]? = some q->es[q]? = some e->kv (.tup [.bool true,e.1,e.2]) (H.put o (.iter m (left.eraseIdx j) (some q) n))))
def opP(E:Env)(F:Fns)(op:BOp)(t:FT)(H:LHeap)(kv kp:HP):Prop:=
 match op with
 |.cf f as=>evsP E as t fun vs=>cP E F f vs H kv kp
 |.cl x as=>evP E x t fun v=>evsP E as t fun vs=>clP E F v vs H kv kp
 |.pn x=>evP E x t fun v=>pnP v fun u=>kp u H
 |.nx x=>evP E x t fun v=>nxP E v H kv
 |.al _|.bx _|.st _ _ _|.ap _ _ _|.mk|.nb _ _|.mu _ _ _ _|.ms _ _|.rg _=>effP E op t H kv
 |op=>valP E op t H fun v=>kv v H
def putP(d:Option Nat)(t:FT)(v:LV)(k:FT->Prop):Prop:=match d with
 |none=>k t
 |some d=>setP t d v k
def wantP(g:Option (Nat×Bool))(t:FT)(yes no:Prop):Prop:=match g with
 |none=>yes
 |some (j,w)=>getP t j fun v=>gP w v yes no
def opsP(E:Env)(F:Fns):List BI->FT->LHeap->XP->Prop
 |[],t,H,k=>k .normal t H
 |i::l,t,H,k=>wantP i.g t (opP E F i.op t H (fun v H'=>putP i.d t v fun t'=>opsP E F l t' H' k) (fun v H'=>k (.pan v) t H')) (putP i.d t (.tup []) fun t'=>opsP E F l t' H k)
def pendP(E:Env)(t:FT)(H:LHeap):List BI->Prop
 |[]=>True
 |b::p=>wantP b.g t (∃d,b.d=some d/\getP t d fun u=>valP E b.op t H fun v=>u=v) True/\pendP E t H p
def drwP(E:Env)(F:Fns):List (BI×List BI)->FT->LHeap->XP->Prop
 |[],t,H,k=>k .normal t H
 |ip::l,t,H,k=>wantP ip.1.g t
   (match ip.1.op with
    |.pn _=>False
    |.nx _=>False
    |.cf f as=>evsP E as t fun vs=>cP E F f vs H (fun v H'=>pendP E t H' ip.2/\putP ip.1.d t v fun t'=>drwP E F l t' H' k) (fun v H'=>k (.pan v) .nil H')
    |.cl x as=>evP E x t fun u=>evsP E as t fun vs=>clfP E F u vs H (fun v H'=>pendP E t H' ip.2/\putP ip.1.d t v fun t'=>drwP E F l t' H' k) (fun v H'=>k (.pan v) .nil H')
    |.al _|.bx _|.st _ _ _|.ap _ _ _|.mk|.nb _ _|.mu _ _ _ _|.ms _ _|.rg _=>effP E ip.1.op t H fun v H'=>pendP E t H' ip.2/\putP ip.1.d t v fun t'=>drwP E F l t' H' k
    |op=>valP E op t H fun v=>putP ip.1.d t v fun t'=>drwP E F l t' H k)
   (putP ip.1.d t (.tup []) fun t'=>drwP E F l t' H k)
def seqK(kb:FT->LHeap->Prop)(k:XP):XP:=fun e t H=>match e with
 |.normal=>kb t H
 |.ret=>k .ret t H
 |.exit n=>k (.exit n) t H
 |.pan v=>k (.pan v) t H
def blkK(id:Nat)(k:XP):XP:=fun e t H=>match e with
 |.normal=>k .normal t H
 |.ret=>k .ret t H
 |.exit n=>if n=id then k .normal t H else k (.exit n) t H
 |.pan v=>k (.pan v) t H
def runP(E:Env)(F:Fns):BCode->FT->LHeap->XP->Prop
 |.skip,t,H,k=>k .normal t H
 |.ops l,t,H,k=>opsP E F l t H k
 |.drw l,t,H,k=>drwP E F l t H k
 |.seq a b,t,H,k=>runP E F a t H (seqK (fun t' H'=>runP E F b t' H' k) k)
 |.cond c a b,t,H,k=>evP E c t fun v=>bP v (runP E F a t H k) (runP E F b t H k)
 |.blk id c,t,H,k=>runP E F c t H (blkK id k)
 |.loop c,t,H,k=>lP E F (.loop c) t H k
 |.exit id,t,H,k=>k (.exit id) t H
 |.ret,t,H,k=>k .ret t H
 |_,_,_,_=>False
section
variable{E:Env}{F:Fns}
theorem putP_spec{d:Option Nat}{t:FT}{v:LV}{k:FT->Prop}(h:putP d t v k):∃t',k t'/\t'.get=putD t.get d v:=by
 cases d with
 |none=>exact⟨t,h,rfl⟩
 |some d=>exact⟨_,h,FT.set_get t d v⟩
theorem wantP_spec{g:Option (Nat×Bool)}{t:FT}{yes no:Prop}(h:wantP g t yes no):(wantedB t.get g=some true/\yes)\/(wantedB t.get g=some false/\no):=by
 unfold wantP at h
 split at h
 ·exact .inl ⟨rfl,h⟩
 ·rename_i j w
  unfold getP at h
  rcases h with⟨h1,h2⟩|⟨h1,h2⟩|⟨h1,h2⟩
  ·exact .inl ⟨by simp[wantedB,h1],h2⟩
  ·exact .inr ⟨by cases w<;>simp[wantedB,h1],h2⟩
  ·exact .inr ⟨by simp[wantedB,h1],h2⟩
theorem effP_spec{op:BOp}{t:FT}{H:LHeap}{k:HP}(h:effP E op t H k):∃v H',effR E t.get H op v H'/\k v H':=by
 rcases h with⟨v,H',h1,h2⟩|⟨v,H',h1,h2⟩
 ·exact⟨v,H',.inl h1,h2⟩
 ·exact⟨v,H',.inr h1,h2⟩
theorem pendP_spec{t:FT}{H:LHeap}:∀{p:List BI},pendP E t H p->PendOk E t.get H p
 |[],_=>fun b hb=>by cases hb
 |a::p,h=>fun b hb hw=>by
  rcases List.mem_cons.1 hb with rfl|hb
  ·rcases wantP_spec h.1 with⟨h1,d,h2,v,h3,h4⟩|⟨h1,_⟩
   ·exact⟨d,h2,by rw[h3,<-h4]⟩
   ·rw[hw]at h1;cases h1
  ·exact pendP_spec h.2 b hb hw
theorem opsP_ok:∀(l:List BI)(t:FT)(H:LHeap)(k:XP),H.Ok->opsP E F l t H k->Out E F (.code (.ops l) t.get [] H) (XSP k)
 |[],t,H,k,hH,h=>.nil ⟨.normal,t,H,rfl,hH,h⟩
 |i::l,t,H,k,hH,h=>by
  rcases wantP_spec (show wantP i.g t _ _ from h) with⟨hw,h⟩|⟨hw,h⟩
  ·have call:∀(f:FuncId)(args:List LV),calleeB E t.get i.op=some (f,args)->cP E F f args H (fun v H'=>putP i.d t v fun t'=>opsP E F l t' H' k) (fun v H'=>k (.pan v) t H') ->
     Out E F (.code (.ops (i::l)) t.get [] H) (XSP k):=by
    intro f args hc hh
    refine .call hw hc (hh hH) (fun v H' hT=>?_) (fun v H' hT=>?_)
    ·rcases hT with⟨v',H'',he,hok,hk⟩|⟨v',H'',he,hok,hk⟩<;>cases he
     obtain⟨t',h1,h2⟩:=putP_spec hk
     rw[<-h2];exact opsP_ok l t' _ k hok h1
    ·rcases hT with⟨v',H'',he,hok,hk⟩|⟨v',H'',he,hok,hk⟩<;>cases he
     exact⟨.pan v,t,H',rfl,hok,hk⟩
   have eff:effP E i.op t H (fun v H'=>putP i.d t v fun t'=>opsP E F l t' H' k)->Out E F (.code (.ops (i::l)) t.get [] H) (XSP k):=by
    intro hh
    obtain⟨v,H',h1,h2⟩:=effP_spec hh
    obtain⟨t',h3,h4⟩:=putP_spec h2
    exact .eff hw h1 (by rw[<-h4];exact opsP_ok l t' H' k (effR_ok hH h1) h3)
   have val:valP E i.op t H (fun v=>putP i.d t v fun t'=>opsP E F l t' H k)->Out E F (.code (.ops (i::l)) t.get [] H) (XSP k):=by
    intro ⟨v,h1,h2⟩
    obtain⟨t',h3,h4⟩:=putP_spec h2
    exact .val hw h1 (by rw[<-h4];exact opsP_ok l t' H k hH h3)
   revert h
   generalize ho:i.op=op
   intro h
   rw[ho]at call eff val
   cases op with
   |cf f as=>exact call f _ rfl h
   |cl x as=>
    rcases (show clP E F (E.ev t.get x) (as.map (E.ev t.get)) H _ _ from h) with⟨f,first,cap,h1,h2⟩|⟨o,h1,h2⟩
    ·exact call f _ (by simp only[calleeB,h1];rfl) h2
    ·obtain⟨fo,ps,q,ba,bb,T1,T2,r1,r2,r3,r4,r5,r6,r7,r8,r9,r10⟩:=h2 hH
     refine .yld hw ho h1 r1 r2 (by simpa [evs] using r3) r4 r5 r6 r7 r8 (fun fr2 df2 H2 hT=>?_) fun j fr2 df2 H2 hT=>?_
     ·obtain⟨hok,hk⟩:=r9 fr2 df2 H2 hT
      obtain⟨t',h1,h2⟩:=putP_spec hk
      rw[<-h2];exact opsP_ok l t' _ k hok h1
     ·obtain⟨hok,hk⟩:=r10 j fr2 df2 H2 hT
      obtain⟨t',h1,h2⟩:=putP_spec hk
      rw[<-h2];exact opsP_ok l t' _ k hok h1
   |pn x=>
    obtain⟨ty,v,h1,h2⟩:=h
    exact .pan hw ho h1 ⟨.pan _,t,H,by rw[h1],hH,h2⟩
   |nx x=>
    obtain⟨o,m,left,kk,n,h1,h2,h3⟩:=h
    rcases h3 with⟨rfl,h4,h5⟩|⟨hne,es,h4,h5,h6⟩
    ·obtain⟨t',h7,h8⟩:=putP_spec h5
     exact .next_done hw ho h1 h2 h4 (by rw[<-h8];exact opsP_ok l t' H k hH h7)
    ·refine .next_some hw ho h1 h2 hne h4 h5 (fun j q kv hj hq=>?_)
     obtain⟨t',h7,h8⟩:=putP_spec (h6 j q kv hj hq)
     rw[<-h8];exact opsP_ok l t' _ k (Desc.put hH) h7
   |al _=>exact eff h
   |bx _=>exact eff h
   |st _ _ _=>exact eff h
   |ap _ _ _=>exact eff h
   |mk=>exact eff h
   |nb _ _=>exact eff h
   |mu _ _ _ _=>exact eff h
   |ms _ _=>exact eff h
   |rg _=>exact eff h
   |_=>exact val h
  ·obtain⟨t',h1,h2⟩:=putP_spec h
   exact .pass hw (by rw[<-h2];exact opsP_ok l t' H k hH h1)
theorem drwP_ok:∀(l:List (BI×List BI))(t:FT)(H:LHeap)(k:XP),H.Ok->drwP E F l t H k->Out E F (.code (.drw l) t.get [] H) (XSP k)
 |[],t,H,k,hH,h=>.drw_nil ⟨.normal,t,H,rfl,hH,h⟩
 |(i,p)::l,t,H,k,hH,h=>by
  rcases wantP_spec (show wantP i.g t _ _ from h) with⟨hw,h⟩|⟨hw,h⟩
  ·have call:∀(f:FuncId)(args:List LV),calleeB E t.get i.op=some (f,args)->cP E F f args H (fun v H'=>pendP E t H' p/\putP i.d t v fun t'=>drwP E F l t' H' k) (fun v H'=>k (.pan v) .nil H') ->
     Out E F (.code (.drw ((i,p)::l)) t.get [] H) (XSP k):=by
    intro f args hc hh
    refine .drw_call hw hc (hh hH) (fun v H' hT=>?_) (fun v H' hT=>?_) (fun v H' hT=>?_)
    ·rcases hT with⟨v',H'',he,hok,hk⟩|⟨v',H'',he,hok,hk⟩<;>cases he
     exact pendP_spec hk.1
    ·rcases hT with⟨v',H'',he,hok,hk⟩|⟨v',H'',he,hok,hk⟩<;>cases he
     obtain⟨t',h1,h2⟩:=putP_spec hk.2
     rw[<-h2];exact drwP_ok l t' _ k hok h1
    ·rcases hT with⟨v',H'',he,hok,hk⟩|⟨v',H'',he,hok,hk⟩<;>cases he
     exact⟨.pan v,.nil,H',rfl,hok,hk⟩
   have eff:effP E i.op t H (fun v H'=>pendP E t H' p/\putP i.d t v fun t'=>drwP E F l t' H' k)->Out E F (.code (.drw ((i,p)::l)) t.get [] H) (XSP k):=by
    intro hh
    obtain⟨v,H',h1,hp,h2⟩:=effP_spec hh
    obtain⟨t',h3,h4⟩:=putP_spec h2
    exact .drw_eff hw h1 (pendP_spec hp) (by rw[<-h4];exact drwP_ok l t' H' k (effR_ok hH h1) h3)
   have val:valP E i.op t H (fun v=>putP i.d t v fun t'=>drwP E F l t' H k)->Out E F (.code (.drw ((i,p)::l)) t.get [] H) (XSP k):=by
    intro ⟨v,h1,h2⟩
    obtain⟨t',h3,h4⟩:=putP_spec h2
    exact .drw_val hw h1 (by rw[<-h4];exact drwP_ok l t' H k hH h3)
   revert h
   simp only
   generalize ho:i.op=op
   intro h
   rw[ho]at call eff val
   cases op with
   |cf f as=>exact call f _ rfl h
   |cl x as=>
    obtain⟨f,first,cap,h1,h2⟩:=h
    exact call f _ (by simp only[calleeB,h1];rfl) h2
   |pn x=>exact h.elim
   |nx x=>exact h.elim
   |al _=>exact eff h
   |bx _=>exact eff h
   |st _ _ _=>exact eff h
   |ap _ _ _=>exact eff h
   |mk=>exact eff h
   |nb _ _=>exact eff h
   |mu _ _ _ _=>exact eff h
   |ms _ _=>exact eff h
   |rg _=>exact eff h
   |_=>exact val h
  ·obtain⟨t',h1,h2⟩:=putP_spec h
   exact .drw_pass hw (by rw[<-h2];exact drwP_ok l t' H k hH h1)
theorem runP_ok:∀(c:BCode)(t:FT)(H:LHeap)(k:XP),H.Ok->runP E F c t H k->Out E F (.code c t.get [] H) (XSP k)
 |.skip,t,H,k,hH,h=>.skip ⟨.normal,t,H,rfl,hH,h⟩
 |.ops l,t,H,k,hH,h=>opsP_ok l t H k hH h
 |.drw l,t,H,k,hH,h=>drwP_ok l t H k hH h
 |.seq a b,t,H,k,hH,h=>by
  refine .seq (runP_ok a t H _ hH h) (fun fr df H' hT=>?_) (fun e fr df H' hT hne=>?_)
  ·obtain⟨e,t',H'',he,hok,hk⟩:=hT
   cases he
   exact runP_ok b t' H' k hok hk
  ·obtain⟨e',t',H'',he,hok,hk⟩:=hT
   cases he
   cases e with
   |normal=>exact absurd rfl hne
   |exit n=>exact⟨_,t',H',rfl,hok,hk⟩
   |ret=>exact⟨_,t',H',rfl,hok,hk⟩
   |pan v=>exact⟨_,t',H',rfl,hok,hk⟩
 |.cond c a b,t,H,k,hH,h=>by
  rcases (show bP (E.ev t.get c) _ _ from h) with⟨h1,h2⟩|⟨h1,h2⟩
  ·exact .cond_t h1 (runP_ok a t H k hH h2)
  ·exact .cond_f h1 (runP_ok b t H k hH h2)
 |.blk id c,t,H,k,hH,h=>by
  refine .blk (runP_ok c t H _ hH h) (fun fr df H' hT=>?_) (fun fr df H' hT=>?_) (fun e fr df H' hT hne hid=>?_)
  ·obtain⟨e,t',H'',he,hok,hk⟩:=hT
   cases he
   exact⟨_,t',H',rfl,hok,hk⟩
  ·obtain⟨e,t',H'',he,hok,hk⟩:=hT
   cases he
   exact⟨_,t',H',rfl,hok,by simpa [blkK] using hk⟩
  ·obtain⟨e',t',H'',he,hok,hk⟩:=hT
   cases he
   cases e with
   |normal=>exact absurd rfl hne
   |exit j=>exact⟨_,t',H',rfl,hok,by
     have:j≠id:=fun e=>hid (by rw[e])
     simpa [blkK,this] using hk⟩
   |ret=>exact⟨_,t',H',rfl,hok,hk⟩
   |pan v=>exact⟨_,t',H',rfl,hok,hk⟩
 |.loop c,t,H,k,hH,h=>h hH
 |.exit id,t,H,k,hH,h=>.exit ⟨.exit id,t,H,rfl,hH,h⟩
 |.ret,t,H,k,hH,h=>.ret ⟨.ret,t,H,rfl,hH,h⟩
 |.rf _ _ _ _,t,H,k,hH,h=>h.elim
 |.bad,t,H,k,hH,h=>h.elim
def loopK(again:FT->LHeap->Prop)(k:XP):XP:=fun e t H=>match e with
 |.normal=>again t H
 |.ret=>k .ret t H
 |.exit n=>k (.exit n) t H
 |.pan v=>k (.pan v) t H
theorem lP_of_run{c:BCode}{t:FT}{H:LHeap}{k:XP}(h:runP E F c t H k):lP E F c t H k:=fun hH=>runP_ok c t H k hH h
theorem lP_weak{c:BCode}{t t':FT}{H H':LHeap}{k:XP}(hc:∀l,c≠.drw l)(ht:FT.Le t' t)(hh:HWk H H')(hok:H.Ok->H'.Ok)(h:lP E F c t' H' k):lP E F c t H k:=
 fun hH=>.weak hc ht.fwk hh (h (hok hH))
theorem HWk.refl(H:LHeap):HWk H H:=⟨Nat.le_refl _,fun _ _ h=>h⟩
theorem lP_loop{σ:Type}{c:BCode}{k:XP}(fr:σ->FT)(hp:σ->LHeap)(m:σ->Nat)(I:σ->Prop)
  (h:∀s,I s->(hp s).Ok->runP E F c (fr s) (hp s) (loopK (fun t' H'=>∃s',m s'<m s/\I s'/\FT.Le (fr s') t'/\HWk H' (hp s')/\(H'.Ok->(hp s').Ok)) k)):
  ∀s,I s->lP E F (.loop c) (fr s) (hp s) k:=by
 intro s
 induction hn:m s using Nat.strongRecOn generalizing s with
 |ind n ih=>
  intro hI hH
  refine .loop (runP_ok c (fr s) (hp s) _ hH (h s hI hH)) (fun fr' df H' hT=>?_) (fun e fr' df H' hT hne=>?_)
  ·obtain⟨e,t',H'',he,hok,hk⟩:=hT
   cases he
   obtain⟨s',h1,h2,h3,h4,h5⟩:=hk
   exact .weak (fun l=>(by simp)) h3.fwk h4 (ih (m s') (hn▸h1) s' rfl h2 (h5 hok))
  ·obtain⟨e',t',H'',he,hok,hk⟩:=hT
   cases he
   cases e with
   |normal=>exact absurd rfl hne
   |exit n=>exact⟨_,t',H',rfl,hok,hk⟩
   |ret=>exact⟨_,t',H',rfl,hok,hk⟩
   |pan v=>exact⟨_,t',H',rfl,hok,hk⟩
theorem lP_unroll{c:BCode}{t:FT}{H:LHeap}{k:XP}(h:runP E F c t H (loopK (fun t' H'=>lP E F (.loop c) t' H' k) k)):lP E F (.loop c) t H k:=by
 intro hH
 refine .loop (runP_ok c t H _ hH h) (fun fr' df H' hT=>?_) (fun e fr' df H' hT hne=>?_)
 ·obtain⟨e,t',H'',he,hok,hk⟩:=hT
  cases he
  exact hk hok
 ·obtain⟨e',t',H'',he,hok,hk⟩:=hT
  cases he
  cases e with
  |normal=>exact absurd rfl hne
  |exit n=>exact⟨_,t',H',rfl,hok,hk⟩
  |ret=>exact⟨_,t',H',rfl,hok,hk⟩
  |pan v=>exact⟨_,t',H',rfl,hok,hk⟩
theorem lP_enter{σ:Type}{c:BCode}{k:XP}(fr:σ->FT)(hp:σ->LHeap)(m:σ->Nat)(I:σ->Prop)(s:σ){t:FT}{H:LHeap}
  (hI:I s) (ht:FT.Le (fr s) t) (hh:HWk H (hp s)/\(H.Ok->(hp s).Ok))
  (h:∀s,I s->(hp s).Ok->runP E F c (fr s) (hp s) (loopK (fun t' H'=>∃s',m s'<m s/\I s'/\FT.Le (fr s') t'/\HWk H' (hp s')/\(H'.Ok->(hp s').Ok)) k)):
  lP E F (.loop c) t H k:=
 lP_weak (fun l=>(by simp)) ht hh.1 hh.2 (lP_loop fr hp m I h s hI)
def argsP:List LV->Nat->FT->(FT->Prop)->Prop
 |[],_,t,k=>k t
 |v::l,n,t,k=>setP t n v fun t'=>argsP l (n+1) t' k
theorem argsP_spec:∀{l:List LV}{n:Nat}{t:FT}{k:FT->Prop},argsP l n t k->∃t',k t'/\∀j,t'.get j=if n<=j/\j<n+l.length then l.getD (j - n) .bot else t.get j
 |[],n,t,k,h=>⟨t,h,fun j=>by rw[if_neg (by simp only[List.length_nil];omega)]⟩
 |v::l,n,t,k,h=>by
  obtain⟨t2,h3,h4⟩:=argsP_spec (l:=l) (show argsP l (n+1) (t.set n v) k from h)
  refine⟨t2,h3,fun j=>?_⟩
  rw[h4 j,FT.set_get]
  simp only[upd,List.length_cons]
  by_cases hj:j=n
  ·subst hj
   rw[if_neg (by omega),if_pos rfl,if_pos (by omega)]
   simp
  ·by_cases hin:n+1<=j/\j<n+1+l.length
   ·rw[if_pos (by omega),if_pos (by omega)]
    obtain⟨m,hm⟩:∃m,j - n=m+1:=⟨j - n - 1,by omega⟩
    rw[hm,show j - (n+1)=m by omega]
    rfl
   ·rw[if_neg (by omega),if_neg hj,if_neg (by omega)]
def resP(E:Env)(res:List BRes)(t:FT)(H:LHeap)(k:LV->Prop):Prop:=vP (resultL H t.get res) k
def finK(E:Env)(b:BFn)(kv kp:HP):XP:=fun e t H=>match e with
 |.normal=>resP E b.res t H fun v=>kv v H
 |.ret=>resP E b.res t H fun v=>kv v H
 |.pan v=>kp v H
 |.exit _=>False
def fnP(E:Env)(F:Fns)(b:BFn)(args:List LV)(H:LHeap)(kv kp:HP):Prop:=args.length<=b.n/\argsP args 0 .nil fun t=>runP E F b.body t H (finK E b kv kp)
theorem cP_of_fn{b:BFn}{f:FuncId}{args:List LV}{H:LHeap}{kv kp:HP}(hf:F.fn f b)
  (h:H.Ok->fnP E F b args H (fun v H'=>∃H'',HWk H' H''/\(H'.Ok->H''.Ok)/\kv v H'') kp):cP E F f args H kv kp:=by
 intro hH
 obtain⟨hn,h⟩:=h hH
 obtain⟨t,h1,h2⟩:=argsP_spec h
 have ht:t.get=frOf args:=by
  funext j
  rw[h2 j]
  simp only[frOf]
  by_cases hj:j<args.length
  ·rw[if_pos (by omega)];simp
  ·rw[if_neg (by omega)]
   have:args[j]? = none:=List.getElem?_eq_none (by omega)
   simp[List.getD_eq_getElem?_getD,this,FT.get_nil]
 have hb:=runP_ok b.body t H _ hH h1
 rw[ht]at hb
 refine .enter hf hn hb (fun fr df H' hT=>?_) (fun v fr df H' hT=>?_) (fun n fr df H' hT=>?_)
 ·have:∃(t':FT),fr=t'.get/\df=[]/\H'.Ok/\resP E b.res t' H' fun v=>∃H'',HWk H' H''/\(H'.Ok->H''.Ok)/\kv v H'':=by
   rcases hT with⟨e,t',H'',he,hok,hk⟩|⟨e,t',H'',he,hok,hk⟩<;>cases he
   ·exact⟨t',rfl,rfl,hok,hk⟩
   ·exact⟨t',rfl,rfl,hok,hk⟩
  obtain⟨t',rfl,rfl,hok,v,hv,H1,h3,h4,h5⟩:=this
  exact⟨rfl,v,v,H1,hv,.inl rfl,h3,.inl ⟨v,H1,rfl,h4 hok,h5⟩⟩
 ·obtain⟨e,t',H'',he,hok,hk⟩:=hT
  cases he
  exact⟨rfl,v,H',.inl rfl,⟨Nat.le_refl _,fun _ _ h=>h⟩,.inr ⟨v,H',rfl,hok,hk⟩⟩
 ·obtain⟨e,t',H'',he,hok,hk⟩:=hT
  cases he
  cases hk
def HExt(H H':LHeap):Prop:=H.next<=H'.next/\∀i o,look i H.objs=some o->look i H'.objs=some o
theorem HExt.refl{H:LHeap}{n:Nat}(h:H.next<=n):HExt H ⟨H.objs,n⟩:=⟨h,fun _ _ h=>h⟩
theorem HExt.refl'(H:LHeap):HExt H H:=⟨Nat.le_refl _,fun _ _ h=>h⟩
theorem HExt.cons{H:LHeap}(hH:H.Ok){i n m:Nat}{o:LObj}{l:List (Nat×LObj)}(hi:H.next<=i)(h:HExt H ⟨l,n⟩)(hm:H.next<=m):HExt H ⟨(i,o)::l,m⟩:=
 ⟨hm,fun j x hj=>by
  have:=hH.look hj
  simp only[look]
  rw[if_neg (by omega)]
  exact h.2 j x hj⟩
def Pure(E:Env)(F:Fns)(f:FuncId)(args:List LV)(v:LV):Prop:=∀(H:LHeap)(kv kp:HP),(∀n,H.next<=n->kv v ⟨H.objs,n⟩)->cP E F f args H kv kp
def pureK(H:LHeap)(v:LV):HP:=fun u H'=>∃H'',HWk H' H''/\(H'.Ok->H''.Ok)/\u=v/\∃n,H.next<=n/\H''=⟨H.objs,n⟩
theorem pureK_i{H H':LHeap}{u v:LV}(hH:H.Ok)(h:u=v)(he:HExt H H'):pureK H v u H':=
 ⟨⟨H.objs,H'.next⟩,⟨Nat.le_refl _,he.2⟩,fun _=>Desc.mono hH he.1,h,_,he.1,rfl⟩
theorem Pure.of_fn{b:BFn}{f:FuncId}{args:List LV}{v:LV}(hf:F.fn f b)(h:∀H:LHeap,H.Ok->fnP E F b args H (pureK H v) (fun _ _=>False)):Pure E F f args v:=by
 intro H kv kp hk hH
 have h1:=cP_of_fn (kv:=fun u H''=>u=v/\∃n,H.next<=n/\H''=⟨H.objs,n⟩) (kp:=fun _ _=>False) hf (fun hH=>h H hH) hH
 refine .mono h1 fun r hr=>?_
 rcases hr with⟨u,H',rfl,hok,rfl,n,hn,rfl⟩|⟨u,H',rfl,hok,hf⟩
 ·exact .inl ⟨u,_,rfl,hok,hk n hn⟩
 ·exact hf.elim
end
end Go.Abs
namespace Go.Abs
open Go
section
variable{E:Env}{F:Fns}
theorem vP_some{α:Type}(v:α)(k:α->Prop):vP (some v) k=k v:=propext ⟨fun⟨_,h,h'⟩=>by cases h;exact h',fun h=>⟨v,rfl,h⟩⟩
theorem vP_none{α:Type}(k:α->Prop):vP none k=False:=propext ⟨fun⟨_,h,_⟩=>(by cases h),False.elim⟩
theorem vP_map{α β:Type}(o:Option α)(f:α->β)(k:β->Prop):vP (o.map f) k=vP o fun v=>k (f v):=by
 cases o with
 |none=>rw[Option.map_none,vP_none,vP_none]
 |some v=>rw[Option.map_some,vP_some,vP_some]
theorem vP_bind{α β:Type}(o:Option α)(f:α->Option β)(k:β->Prop):vP (o.bind f) k=vP o fun v=>vP (f v) k:=by
 cases o with
 |none=>rw[Option.bind_none,vP_none,vP_none]
 |some v=>rw[Option.bind_some,vP_some]
theorem eP_some(v:LV)(H:LHeap)(k:HP):eP (some (v,H)) k=k v H:=propext ⟨fun⟨_,_,h,h'⟩=>by cases h;exact h',fun h=>⟨v,H,rfl,h⟩⟩
theorem bP_bool(b:Bool)(A B:Prop):bP (.sc (.bool b)) A B=((b=true->A)/\(b=false->B)):=by
 cases b<;>simp[bP]
theorem bP_true(A B:Prop):bP (.sc (.bool true)) A B=A:=by simp[bP]
theorem bP_false(A B:Prop):bP (.sc (.bool false)) A B=B:=by simp[bP]
theorem gP_yes(w:Bool)(A B:Prop):gP w (.sc (.bool w)) A B=A:=by cases w<;>simp[gP]
theorem gP_tf(A B:Prop):gP true (.sc (.bool false)) A B=B:=by simp[gP]
theorem gP_ft(A B:Prop):gP false (.sc (.bool true)) A B=B:=by simp[gP]
theorem gP_tup(w:Bool)(A B:Prop):gP w (.tup []) A B=B:=by cases w<;>simp[gP]
theorem gP_boolt(b:Bool)(A B:Prop):gP true (.sc (.bool b)) A B=((b=true->A)/\(b=false->B)):=by cases b<;>simp[gP]
theorem gP_boolf(b:Bool)(A B:Prop):gP false (.sc (.bool b)) A B=((b=true->B)/\(b=false->A)):=by cases b<;>simp[gP]
theorem runP_skip(t:FT)(H:LHeap)(k:XP):runP E F .skip t H k=k .normal t H:=propext Iff.rfl
theorem runP_ops(l:List BI)(t:FT)(H:LHeap)(k:XP):runP E F (.ops l) t H k=opsP E F l t H k:=propext Iff.rfl
theorem runP_drw(l:List (BI×List BI))(t:FT)(H:LHeap)(k:XP):runP E F (.drw l) t H k=drwP E F l t H k:=propext Iff.rfl
theorem runP_seq(a b:BCode)(t:FT)(H:LHeap)(k:XP):runP E F (.seq a b) t H k=runP E F a t H (seqK (fun t' H'=>runP E F b t' H' k) k):=propext Iff.rfl
theorem runP_cond(c:BO)(a b:BCode)(t:FT)(H:LHeap)(k:XP):runP E F (.cond c a b) t H k=evP E c t fun v=>bP v (runP E F a t H k) (runP E F b t H k):=propext Iff.rfl
theorem runP_blk(id:Nat)(c:BCode)(t:FT)(H:LHeap)(k:XP):runP E F (.blk id c) t H k=runP E F c t H (blkK id k):=propext Iff.rfl
theorem runP_loop(c:BCode)(t:FT)(H:LHeap)(k:XP):runP E F (.loop c) t H k=lP E F (.loop c) t H k:=propext Iff.rfl
theorem runP_exit(id:Nat)(t:FT)(H:LHeap)(k:XP):runP E F (.exit id) t H k=k (.exit id) t H:=propext Iff.rfl
theorem runP_ret(t:FT)(H:LHeap)(k:XP):runP E F .ret t H k=k .ret t H:=propext Iff.rfl
theorem seqK_n(kb:FT->LHeap->Prop)(k:XP)(t:FT)(H:LHeap):seqK kb k .normal t H=kb t H:=propext Iff.rfl
theorem seqK_r(kb:FT->LHeap->Prop)(k:XP)(t:FT)(H:LHeap):seqK kb k .ret t H=k .ret t H:=propext Iff.rfl
theorem seqK_e(kb:FT->LHeap->Prop)(k:XP)(n:Nat)(t:FT)(H:LHeap):seqK kb k (.exit n) t H=k (.exit n) t H:=propext Iff.rfl
theorem seqK_p(kb:FT->LHeap->Prop)(k:XP)(v:LV)(t:FT)(H:LHeap):seqK kb k (.pan v) t H=k (.pan v) t H:=propext Iff.rfl
theorem blkK_n(id:Nat)(k:XP)(t:FT)(H:LHeap):blkK id k .normal t H=k .normal t H:=propext Iff.rfl
theorem blkK_r(id:Nat)(k:XP)(t:FT)(H:LHeap):blkK id k .ret t H=k .ret t H:=propext Iff.rfl
theorem blkK_e(id:Nat)(k:XP)(n:Nat)(t:FT)(H:LHeap):blkK id k (.exit n) t H=if n=id then k .normal t H else k (.exit n) t H:=propext Iff.rfl
theorem blkK_p(id:Nat)(k:XP)(v:LV)(t:FT)(H:LHeap):blkK id k (.pan v) t H=k (.pan v) t H:=propext Iff.rfl
theorem loopK_n(kb:FT->LHeap->Prop)(k:XP)(t:FT)(H:LHeap):loopK kb k .normal t H=kb t H:=propext Iff.rfl
theorem loopK_r(kb:FT->LHeap->Prop)(k:XP)(t:FT)(H:LHeap):loopK kb k .ret t H=k .ret t H:=propext Iff.rfl
theorem loopK_e(kb:FT->LHeap->Prop)(k:XP)(n:Nat)(t:FT)(H:LHeap):loopK kb k (.exit n) t H=k (.exit n) t H:=propext Iff.rfl
theorem loopK_p(kb:FT->LHeap->Prop)(k:XP)(v:LV)(t:FT)(H:LHeap):loopK kb k (.pan v) t H=k (.pan v) t H:=propext Iff.rfl
theorem finK_n(b:BFn)(kv kp:HP)(t:FT)(H:LHeap):finK E b kv kp .normal t H=resP E b.res t H fun v=>kv v H:=propext Iff.rfl
theorem finK_r(b:BFn)(kv kp:HP)(t:FT)(H:LHeap):finK E b kv kp .ret t H=resP E b.res t H fun v=>kv v H:=propext Iff.rfl
theorem finK_p(b:BFn)(kv kp:HP)(v:LV)(t:FT)(H:LHeap):finK E b kv kp (.pan v) t H=kp v H:=propext Iff.rfl
theorem resP_one(n:Nat)(t:FT)(H:LHeap)(k:LV->Prop):resP E [.t n] t H k=getP t n k:=by unfold resP getP;simp[resultL,resL,vP_some]
theorem resP_two(n m:Nat)(t:FT)(H:LHeap)(k:LV->Prop):resP E [.t n,.t m] t H k=getP t n fun a=>getP t m fun b=>k (.tup [a,b]):=by
 unfold resP getP;simp[resultL,resL,vP_some]
theorem resP_three(n m q:Nat)(t:FT)(H:LHeap)(k:LV->Prop):resP E [.t n,.t m,.t q] t H k=getP t n fun a=>getP t m fun b=>getP t q fun c=>k (.tup [a,b,c]):=by
 unfold resP getP;simp[resultL,resL,vP_some]
theorem resP_nil(t:FT)(H:LHeap)(k:LV->Prop):resP E [] t H k=k (.tup []):=by
 unfold resP;simp[resultL,vP_some]
theorem resP_c(n:Nat)(m:Option Nat)(t:FT)(H:LHeap)(k:LV->Prop):resP E [.c n m] t H k=getP t n fun a=>vP (loadL H m a) k:=propext Iff.rfl
theorem nxP_nil(o n m:Nat)(c:Option Nat)(l:List (Nat×LObj))(kv:HP):nxP E (.ptr o 0) ⟨(o,.iter o [] c m)::l,n⟩ kv=kv (.tup [.bool false]) ⟨(o,.iter o [] c m)::l,n⟩:=by
 unfold nxP
 apply propext
 constructor
 ·rintro⟨o',m',left,k,n',h1,h2,h3⟩
  cases h1
  simp only[look,if_true,Option.some.injEq,LObj.iter.injEq]at h2
  obtain⟨rfl,rfl,rfl,rfl⟩:=h2
  rcases h3 with⟨_,_,h⟩|⟨h,_⟩
  ·exact h
  ·exact absurd rfl h
 ·intro h
  exact⟨o,o,[],c,m,rfl,by simp[look],.inl ⟨rfl,.inl rfl,h⟩⟩
theorem argsP_nil(n:Nat)(t:FT)(k:FT->Prop):argsP [] n t k=k t:=propext Iff.rfl
theorem argsP_cons(v:LV)(l:List LV)(n:Nat)(t:FT)(k:FT->Prop):argsP (v::l) n t k=setP t n v fun t'=>argsP l (n+1) t' k:=propext Iff.rfl
theorem evP_t(n:Nat)(t:FT)(k:LV->Prop):evP E (.t n) t k=getP t n k:=propext Iff.rfl
theorem evP_c(v:LV)(t:FT)(k:LV->Prop):evP E (.c v) t k=k v:=propext Iff.rfl
theorem evP_g(n:Nat)(t:FT)(k:LV->Prop):evP E (.g n) t k=k (E.glob n):=propext Iff.rfl
theorem evsP_nil(t:FT)(k:List LV->Prop):evsP E [] t k=k []:=propext Iff.rfl
theorem evsP_cons(x:BO)(xs:List BO)(t:FT)(k:List LV->Prop):evsP E (x::xs) t k=evP E x t fun v=>evsP E xs t fun vs=>k (v::vs):=propext Iff.rfl
theorem clP_fn(f:FuncId)(first cap args:List LV)(H:LHeap)(kv kp:HP):clP E F (.fn (.func f) first cap) args H kv kp=cP E F f (first++args++cap) H kv kp:=by
 apply propext
 constructor
 ·rintro(⟨_,_,_,h,h'⟩|⟨_,h,_⟩)
  ·cases h;exact h'
  ·cases h
 ·exact fun h=>.inl ⟨f,first,cap,rfl,h⟩
theorem clP_yld(o:Nat)(args:List LV)(H:LHeap)(kv kp:HP):clP E F (.fn (.yield o) [] []) args H kv kp=yP E F o args H kv:=by
 apply propext
 constructor
 ·rintro(⟨_,_,_,h,_⟩|⟨_,h,h'⟩)
  ·cases h
  ·cases h;exact h'
 ·exact fun h=>.inr ⟨o,rfl,h⟩
theorem clfP_fn(f:FuncId)(first cap args:List LV)(H:LHeap)(kv kp:HP):clfP E F (.fn (.func f) first cap) args H kv kp=cP E F f (first++args++cap) H kv kp:=
 propext ⟨fun⟨_,_,_,h,h'⟩=>by cases h;exact h',fun h=>⟨f,first,cap,rfl,h⟩⟩
theorem pnP_i(ty:TypeId)(v:LV)(k:LV->Prop):pnP (.iface ty v) k=k (.iface ty v):=propext ⟨fun⟨_,_,h,h'⟩=>by cases h;exact h',fun h=>⟨ty,v,rfl,h⟩⟩
theorem opsP_nil(t:FT)(H:LHeap)(k:XP):opsP E F [] t H k=k .normal t H:=propext Iff.rfl
theorem opsP_d(d:Nat)(op:BOp)(l:List BI)(t:FT)(H:LHeap)(k:XP):
  opsP E F (⟨some d,none,op⟩::l) t H k=opP E F op t H (fun v H'=>setP t d v fun t'=>opsP E F l t' H' k) (fun v H'=>k (.pan v) t H'):=propext Iff.rfl
theorem opsP_x(op:BOp)(l:List BI)(t:FT)(H:LHeap)(k:XP):
  opsP E F (⟨none,none,op⟩::l) t H k=opP E F op t H (fun _ H'=>opsP E F l t H' k) (fun v H'=>k (.pan v) t H'):=propext Iff.rfl
theorem opsP_gt(d j:Nat)(op:BOp)(l:List BI)(t:FT)(H:LHeap)(k:XP):
  opsP E F (⟨some d,some (j,true),op⟩::l) t H k=getP t j fun u=>gP true u (opP E F op t H (fun v H'=>setP t d v fun t'=>opsP E F l t' H' k) (fun v H'=>k (.pan v) t H')) (setP t d (.tup []) fun t'=>opsP E F l t' H k):=propext Iff.rfl
theorem opsP_gf(d j:Nat)(op:BOp)(l:List BI)(t:FT)(H:LHeap)(k:XP):
  opsP E F (⟨some d,some (j,false),op⟩::l) t H k=getP t j fun u=>gP false u (opP E F op t H (fun v H'=>setP t d v fun t'=>opsP E F l t' H' k) (fun v H'=>k (.pan v) t H')) (setP t d (.tup []) fun t'=>opsP E F l t' H k):=propext Iff.rfl
theorem opP_cf(f:FuncId)(as:List BO)(t:FT)(H:LHeap)(kv kp:HP):opP E F (.cf f as) t H kv kp=evsP E as t fun vs=>cP E F f vs H kv kp:=propext Iff.rfl
theorem opP_cl(x:BO)(as:List BO)(t:FT)(H:LHeap)(kv kp:HP):opP E F (.cl x as) t H kv kp=evP E x t fun v=>evsP E as t fun vs=>clP E F v vs H kv kp:=propext Iff.rfl
theorem opP_pn(x:BO)(t:FT)(H:LHeap)(kv kp:HP):opP E F (.pn x) t H kv kp=evP E x t fun v=>pnP v fun u=>kp u H:=propext Iff.rfl
theorem opP_nx(x:BO)(t:FT)(H:LHeap)(kv kp:HP):opP E F (.nx x) t H kv kp=evP E x t fun v=>nxP E v H kv:=propext Iff.rfl
theorem valP_mv(x:BO)(t:FT)(H:LHeap)(k:LV->Prop):valP E (.mv x) t H k=evP E x t k:=by unfold valP evP;rw[show valB E t.get H (.mv x)=some (E.ev t.get x) from rfl,vP_some]
theorem valP_pk(c a b:BO)(t:FT)(H:LHeap)(k:LV->Prop):valP E (.pk c a b) t H k=evP E c t fun v=>bP v (evP E a t k) (evP E b t k):=by
 unfold valP evP
 apply propext
 constructor
 ·rintro⟨v,h1,h2⟩
  simp only[valB]at h1
  split at h1
  ·rename_i b' hb
   rw[hb,bP_bool]
   cases b'<;>simp_all
  ·cases h1
 ·rintro(⟨h1,h2⟩|⟨h1,h2⟩)
  ·exact⟨_,by simp only[valB,h1];rfl,h2⟩
  ·exact⟨_,by simp only[valB,h1];rfl,h2⟩
theorem valP_eq(neg:Bool)(e:EqK)(x y:BO)(t:FT)(H:LHeap)(k:LV->Prop):valP E (.eq neg e x y) t H k=evP E x t fun a=>evP E y t fun b=>vP (eqK e a b) fun r=>k (.sc (.bool (r != neg))):=vP_map _ _ _
theorem valP_bn(o:BinOp)(x y:BO)(t:FT)(H:LHeap)(k:LV->Prop):valP E (.bn o x y) t H k=evP E x t fun a=>evP E y t fun b=>vP (binL o a b) k:=propext Iff.rfl
theorem valP_nt(x:BO)(t:FT)(H:LHeap)(k:LV->Prop):valP E (.nt x) t H k=evP E x t fun a=>vP (match a with|.sc (.bool b)=>some (LV.sc (.bool !b))|_=>none) k:=propext Iff.rfl
theorem valP_ld(n:Option Nat)(x:BO)(t:FT)(H:LHeap)(k:LV->Prop):valP E (.ld n x) t H k=evP E x t fun a=>vP (loadL H n a) k:=propext Iff.rfl
def faL(off:Nat):LV->Option LV
 |.ptr o k=>some (.ptr o (k+off))
 |.cptr cs k=>some (.cptr cs (k+off))
 |_=>none
theorem valP_fa(off:Nat)(x:BO)(t:FT)(H:LHeap)(k:LV->Prop):valP E (.fa off x) t H k=evP E x t fun a=>vP (faL off a) k:=propext Iff.rfl
def fdL(off:Nat)(n:Option Nat):LV->Option LV
 |.agg cs=>partL cs off n
 |_=>none
theorem valP_fd(off:Nat)(n:Option Nat)(x:BO)(t:FT)(H:LHeap)(k:LV->Prop):valP E (.fd off n x) t H k=evP E x t fun a=>vP (fdL off n a) k:=propext Iff.rfl
def iaL(H:LHeap)(sz:Nat)(x i:LV):Option LV:=match x,natOf i with
 |.sl es _,some n=>match es[n]? with
  |some e=>if e.cells.length=sz then some (.cptr e.cells 0) else none
  |none=>none
 |.asl o off len,some n=>match look o H.objs with
  |some (.arr s _)=>if n<len/\s=sz then some (.ptr o ((off+n)*sz)) else none
  |_=>none
 |_,_=>none
theorem valP_ia(sz:Nat)(x i:BO)(t:FT)(H:LHeap)(k:LV->Prop):valP E (.ia sz x i) t H k=evP E x t fun a=>evP E i t fun b=>vP (iaL H sz a b) k:=propext Iff.rfl
def ixL(m:Option Nat)(x i:LV):Option LV:=match x,natOf i,m with
 |.sc (.string s),some n,none=>(s.data[n]?).map fun b=>.sc (.int .u8 b.toNat)
 |.agg cs,some n,some m=>if n<m then cs[n]? else none
 |_,_,_=>none
theorem valP_ix(m:Option Nat)(x i:BO)(t:FT)(H:LHeap)(k:LV->Prop):valP E (.ix m x i) t H k=evP E x t fun a=>evP E i t fun b=>vP (ixL m a b) k:=propext Iff.rfl
theorem valP_ln(n:Nat)(x:BO)(t:FT)(H:LHeap)(k:LV->Prop):valP E (.ln n x) t H k=evP E x t fun a=>vP (lenL H n a) fun(m:Nat)=>k (.sc (.int .i64 (m:Int))):=vP_map _ _ _
theorem valP_srn(n sz:Nat)(x:BO)(t:FT)(H:LHeap)(k:LV->Prop):valP E (.sr n sz x none none) t H k=evP E x t fun a=>vP (lenL H n a) fun m=>vP (sliceL n sz a 0 m) k:=by
 unfold valP evP
 simp only[valB,optNat]
 cases lenL H n (E.ev t.get x) with
 |none=>simp only[vP_none]
 |some m=>
  simp only[vP_some]
theorem valP_srl(n sz:Nat)(x l:BO)(t:FT)(H:LHeap)(k:LV->Prop):valP E (.sr n sz x (some l) none) t H k=evP E x t fun a=>evP E l t fun b=>vP (lenL H n a) fun m=>vP (natOf b) fun j=>vP (sliceL n sz a j m) k:=by
 unfold valP evP
 simp only[valB,optNat]
 cases lenL H n (E.ev t.get x) with
 |none=>simp only[vP_none]
 |some m=>
  simp only[vP_some]
  cases natOf (E.ev t.get l)<;>simp only[vP_some,vP_none]
theorem valP_srh(n sz:Nat)(x l:BO)(t:FT)(H:LHeap)(k:LV->Prop):valP E (.sr n sz x none (some l)) t H k=evP E x t fun a=>evP E l t fun b=>vP (lenL H n a) fun _=>vP (natOf b) fun j=>vP (sliceL n sz a 0 j) k:=by
 unfold valP evP
 simp only[valB,optNat]
 cases lenL H n (E.ev t.get x) with
 |none=>simp only[vP_none]
 |some m=>
  simp only[vP_some]
  cases natOf (E.ev t.get l)<;>simp only[vP_some,vP_none]
theorem valP_srb(n sz:Nat)(x l h:BO)(t:FT)(H:LHeap)(k:LV->Prop):valP E (.sr n sz x (some l) (some h)) t H k=evP E x t fun a=>evP E l t fun b=>evP E h t fun c=>vP (lenL H n a) fun _=>vP (natOf b) fun j=>vP (natOf c) fun i=>vP (sliceL n sz a j i) k:=by
 unfold valP evP
 simp only[valB,optNat]
 cases lenL H n (E.ev t.get x) with
 |none=>simp only[vP_none]
 |some m=>
  simp only[vP_some]
  cases natOf (E.ev t.get l)<;>simp only[vP_some,vP_none]<;>cases natOf (E.ev t.get h)<;>simp only[vP_some,vP_none]
theorem valP_cv(kk:IntKind)(x:BO)(t:FT)(H:LHeap)(k:LV->Prop):valP E (.cv kk x) t H k=evP E x t fun a=>vP (match a with|.sc (.int _ n)=>some (LV.sc (.int kk (kk.wrap n)))|_=>none) k:=propext Iff.rfl
theorem valP_mi(ty:TypeId)(x:BO)(t:FT)(H:LHeap)(k:LV->Prop):valP E (.mi ty x) t H k=evP E x t fun a=>k (.iface ty a):=by
 unfold valP evP;rw[show valB E t.get H (.mi ty x)=some (.iface ty (E.ev t.get x)) from rfl,vP_some]
theorem valP_mf(f:Fn)(a b:List BO)(t:FT)(H:LHeap)(k:LV->Prop):valP E (.mf f a b) t H k=evsP E a t fun u=>evsP E b t fun v=>k (.fn f u v):=by
 unfold valP evsP;rw[show valB E t.get H (.mf f a b)=some (.fn f (a.map (E.ev t.get)) (b.map (E.ev t.get))) from rfl,vP_some]
theorem valP_xt(i:Nat)(x:BO)(t:FT)(H:LHeap)(k:LV->Prop):valP E (.xt i x) t H k=evP E x t fun a=>vP (match a with|.tup vs=>vs[i]?|_=>none) k:=propext Iff.rfl
theorem valP_bs(sz:Nat)(ps:List BO)(t:FT)(H:LHeap)(k:LV->Prop):valP E (.bs sz ps) t H k=evsP E ps t fun vs=>vP (if vs.all (fun v=>v.cells.length==sz&&v.whole) then some (LV.sl vs .full) else none) k:=by
 unfold valP evsP
 show vP (if _ then _ else _) k=vP (if _ then _ else _) k
 rw[List.all_map];rfl
theorem valP_bd(zero:List LV)(ps:List (Nat×Nat×BO))(t:FT)(H:LHeap)(k:LV->Prop):valP E (.bd zero ps) t H k=evsP E (ps.map fun p=>p.2.2) t fun vs=>vP (fillL zero ((ps.zip vs).map fun q=>(q.1.1,q.1.2.1,q.2))) fun cs=>k (.agg cs):=by
 unfold valP evsP
 have:(ps.map fun p=>(p.1,p.2.1,E.ev t.get p.2.2))=(ps.zip ((ps.map fun p=>p.2.2).map (E.ev t.get))).map fun q=>(q.1.1,q.1.2.1,q.2):=by
  induction ps with
  |nil=>rfl
  |cons p ps ih=>simp only[List.map_cons,List.zip_cons_cons,ih]
 show vP ((fillL zero (ps.map fun p=>(p.1,p.2.1,E.ev t.get p.2.2))).map .agg) k=_
 rw[this]
 exact vP_map _ _ _
theorem valP_nc(x:BO)(t:FT)(H:LHeap)(k:LV->Prop):valP E (.nc x) t H k=evP E x t fun a=>vP (faL 0 a) k:=by
 unfold valP evP;congr 1
theorem valP_mn(mx:Bool)(x y:BO)(t:FT)(H:LHeap)(k:LV->Prop):valP E (.mn mx x y) t H k=evP E x t fun a=>evP E y t fun b=>vP (match a,b with
  |.sc (.int k a),.sc (.int k' b)=>if k=k' then some (LV.sc (.int k (if mx then (if b > a then b else a) else (if b<a then b else a)))) else none
  |_,_=>none) k:=propext Iff.rfl
def lkL(H:LHeap)(e:EqK)(ok:Bool)(z x i:LV):Option LV:=if (eqK e i i).isSome then match x with
  |.sc (.map none)=>some (if ok then .tup [z,.bool false] else z)
  |.map o=>match look o H.objs with
   |some (.map es)=>match findL e i es with
    |some (some v)=>some (if ok then .tup [v,.bool true] else v)
    |some none=>some (if ok then .tup [z,.bool false] else z)
    |none=>none
   |some (.um es)=>match findU e i es with
    |some (some v)=>some (if ok then .tup [v,.bool true] else v)
    |some none=>some (if ok then .tup [z,.bool false] else z)
    |none=>none
   |_=>none
  |_=>none
  else none
theorem valP_lk(e:EqK)(ok:Bool)(z x i:BO)(t:FT)(H:LHeap)(k:LV->Prop):valP E (.lk e ok z x i) t H k=evP E z t fun c=>evP E x t fun a=>evP E i t fun b=>vP (lkL H e ok c a b) k:=propext Iff.rfl
theorem valP_ta(ty:TypeId)(z x:BO)(t:FT)(H:LHeap)(k:LV->Prop):valP E (.ta ty z x) t H k=evP E z t fun c=>evP E x t fun a=>vP (match a with
  |.iface u v=>some (if u=ty then LV.tup [v,.bool true] else .tup [c,.bool false])
  |.sc .nilIface=>some (.tup [c,.bool false])
  |_=>none) k:=propext Iff.rfl
theorem opP_mv(x:BO)(t:FT)(H:LHeap)(kv kp:HP):opP E F (.mv x) t H kv kp=valP E (.mv x) t H fun v=>kv v H:=propext Iff.rfl
theorem opP_pk(c a b:BO)(t:FT)(H:LHeap)(kv kp:HP):opP E F (.pk c a b) t H kv kp=valP E (.pk c a b) t H fun v=>kv v H:=propext Iff.rfl
theorem opP_eq(neg:Bool)(e:EqK)(x y:BO)(t:FT)(H:LHeap)(kv kp:HP):opP E F (.eq neg e x y) t H kv kp=valP E (.eq neg e x y) t H fun v=>kv v H:=propext Iff.rfl
theorem opP_bn(o:BinOp)(x y:BO)(t:FT)(H:LHeap)(kv kp:HP):opP E F (.bn o x y) t H kv kp=valP E (.bn o x y) t H fun v=>kv v H:=propext Iff.rfl
theorem opP_nt(x:BO)(t:FT)(H:LHeap)(kv kp:HP):opP E F (.nt x) t H kv kp=valP E (.nt x) t H fun v=>kv v H:=propext Iff.rfl
theorem opP_ld(n:Option Nat)(x:BO)(t:FT)(H:LHeap)(kv kp:HP):opP E F (.ld n x) t H kv kp=valP E (.ld n x) t H fun v=>kv v H:=propext Iff.rfl
theorem opP_fa(n:Nat)(x:BO)(t:FT)(H:LHeap)(kv kp:HP):opP E F (.fa n x) t H kv kp=valP E (.fa n x) t H fun v=>kv v H:=propext Iff.rfl
theorem opP_fd(n:Nat)(m:Option Nat)(x:BO)(t:FT)(H:LHeap)(kv kp:HP):opP E F (.fd n m x) t H kv kp=valP E (.fd n m x) t H fun v=>kv v H:=propext Iff.rfl
theorem opP_ia(n:Nat)(x i:BO)(t:FT)(H:LHeap)(kv kp:HP):opP E F (.ia n x i) t H kv kp=valP E (.ia n x i) t H fun v=>kv v H:=propext Iff.rfl
theorem opP_ix(n:Option Nat)(x i:BO)(t:FT)(H:LHeap)(kv kp:HP):opP E F (.ix n x i) t H kv kp=valP E (.ix n x i) t H fun v=>kv v H:=propext Iff.rfl
theorem opP_ln(n:Nat)(x:BO)(t:FT)(H:LHeap)(kv kp:HP):opP E F (.ln n x) t H kv kp=valP E (.ln n x) t H fun v=>kv v H:=propext Iff.rfl
theorem opP_sr(n m:Nat)(x:BO)(l h:Option BO)(t:FT)(H:LHeap)(kv kp:HP):opP E F (.sr n m x l h) t H kv kp=valP E (.sr n m x l h) t H fun v=>kv v H:=propext Iff.rfl
theorem opP_cv(n:IntKind)(x:BO)(t:FT)(H:LHeap)(kv kp:HP):opP E F (.cv n x) t H kv kp=valP E (.cv n x) t H fun v=>kv v H:=propext Iff.rfl
theorem opP_mi(n:TypeId)(x:BO)(t:FT)(H:LHeap)(kv kp:HP):opP E F (.mi n x) t H kv kp=valP E (.mi n x) t H fun v=>kv v H:=propext Iff.rfl
theorem opP_mf(f:Fn)(a b:List BO)(t:FT)(H:LHeap)(kv kp:HP):opP E F (.mf f a b) t H kv kp=valP E (.mf f a b) t H fun v=>kv v H:=propext Iff.rfl
theorem opP_xt(n:Nat)(x:BO)(t:FT)(H:LHeap)(kv kp:HP):opP E F (.xt n x) t H kv kp=valP E (.xt n x) t H fun v=>kv v H:=propext Iff.rfl
theorem opP_bs(n:Nat)(x:List BO)(t:FT)(H:LHeap)(kv kp:HP):opP E F (.bs n x) t H kv kp=valP E (.bs n x) t H fun v=>kv v H:=propext Iff.rfl
theorem opP_bd(n:List LV)(x:List (Nat×Nat×BO))(t:FT)(H:LHeap)(kv kp:HP):opP E F (.bd n x) t H kv kp=valP E (.bd n x) t H fun v=>kv v H:=propext Iff.rfl
theorem opP_nc(x:BO)(t:FT)(H:LHeap)(kv kp:HP):opP E F (.nc x) t H kv kp=valP E (.nc x) t H fun v=>kv v H:=propext Iff.rfl
theorem opP_mn(m:Bool)(x y:BO)(t:FT)(H:LHeap)(kv kp:HP):opP E F (.mn m x y) t H kv kp=valP E (.mn m x y) t H fun v=>kv v H:=propext Iff.rfl
theorem opP_lk(e:EqK)(ok:Bool)(z x i:BO)(t:FT)(H:LHeap)(kv kp:HP):opP E F (.lk e ok z x i) t H kv kp=valP E (.lk e ok z x i) t H fun v=>kv v H:=propext Iff.rfl
theorem opP_ta(n:TypeId)(z x:BO)(t:FT)(H:LHeap)(kv kp:HP):opP E F (.ta n z x) t H kv kp=valP E (.ta n z x) t H fun v=>kv v H:=propext Iff.rfl
theorem effP_of1{op:BOp}{t:FT}{H:LHeap}{k:HP}(h:effB2 E t.get H op=none):effP E op t H k=eP (effB E t.get H op) k:=by
 unfold effP;rw[h];apply propext
 constructor
 ·rintro(h|⟨_,_,h,_⟩)
  ·exact h
  ·cases h
 ·exact .inl
theorem opP_al(z:List LV)(t:FT)(H:LHeap)(kv kp:HP):opP E F (.al z) t H kv kp=kv (.ptr H.next 0) ⟨(H.next,.cells z)::H.objs,H.next+1⟩:=by
 show effP E _ t H kv=_
 rw[effP_of1 rfl];exact eP_some _ _ _
theorem opP_bx(x:BO)(t:FT)(H:LHeap)(kv kp:HP):opP E F (.bx x) t H kv kp=evP E x t fun a=>(a.whole=true/\kv (.ptr H.next 0) ⟨(H.next,.cells a.cells)::H.objs,H.next+1⟩):=by
 show effP E _ t H kv=_
 rw[effP_of1 rfl]
 unfold evP
 simp only[effB]
 cases h:(E.ev t.get x).whole with
 |true=>rw[if_pos rfl,eP_some];simp only[true_and];rfl
 |false=>
       rw[if_neg (by simp)];apply propext;constructor
       ·rintro⟨_,_,h,_⟩;cases h
       ·rintro⟨h,_⟩;cases h
def stL(H:LHeap)(n:Nat)(a x:LV):Option LHeap:=match a with
 |.ptr o off=>match look o H.objs with
  |some (.cells cs)=>if x.cells.length=n/\x.whole/\off+n<=cs.length then some (H.put o (.cells (cs.take off++x.cells++cs.drop (off+n)))) else none
  |some (.arr sz cs)=>if x.cells.length=n/\x.whole/\off+n<=cs.length then some (H.put o (.arr sz (cs.take off++x.cells++cs.drop (off+n)))) else none
  |_=>none
 |_=>none
theorem opP_st(n:Nat)(a x:BO)(t:FT)(H:LHeap)(kv kp:HP):opP E F (.st n a x) t H kv kp=evP E a t fun u=>evP E x t fun v=>vP (stL H n u v) fun H'=>kv .bot H':=by
 show effP E _ t H kv=_
 rw[effP_of1 rfl]
 unfold evP
 have:effB E t.get H (.st n a x)=(stL H n (E.ev t.get a) (E.ev t.get x)).map fun H'=>(LV.bot,H'):=by
  simp only[effB,stL]
  cases E.ev t.get a with
  |ptr o off=>
   simp only
   cases look o H.objs with
   |none=>rfl
   |some ob=>
    cases ob with
    |cells cs=>simp only;split<;>rfl
    |arr sz cs=>simp only;split<;>rfl
    |_=>rfl
  |_=>rfl
 rw[this]
 unfold eP vP
 apply propext
 constructor
 ·rintro⟨v,H',h1,h2⟩
  obtain⟨H'',h3,h4⟩:=Option.map_eq_some_iff.1 h1
  cases h4
  exact⟨_,h3,h2⟩
 ·rintro⟨H',h1,h2⟩
  exact⟨_,_,by rw[h1];rfl,h2⟩
theorem opP_ap(sz:Nat)(a x:BO)(t:FT)(H:LHeap)(kv kp:HP):opP E F (.ap sz a x) t H kv kp=effP E (.ap sz a x) t H kv:=propext Iff.rfl
def apL(H:LHeap)(sz:Nat)(a x:LV):Option (LV×LHeap):=match a,x with
  |.sl es own,.sl xs _=>
   if (es.all fun e=>e.cells.length==sz)&&(xs.all fun e=>e.cells.length==sz) then
    if es.length+xs.length<=2^30/\sz<=2^10/\canApp H sz own es.length then
     match own with
     |.tok t=>some (.sl (es++xs) own,H.put t (.tok (es.length+xs.length) sz))
     |_=>some (.sl (es++xs) (.tok H.next),H.alloc (.tok (es.length+xs.length) sz))
    else none
   else none
  |_,_=>none
theorem effP_ap{sz:Nat}{a x:BO}{t:FT}{H:LHeap}{k:HP}(h:evP E a t fun u=>evP E x t fun v=>eP (apL H sz u v) k):effP E (.ap sz a x) t H k:=.inl h
theorem opP_mk(t:FT)(H:LHeap)(kv kp:HP):opP E F .mk t H kv kp=kv (.map H.next) ⟨(H.next,.map [])::H.objs,H.next+1⟩:=by
 show effP E _ t H kv=_
 rw[effP_of1 rfl];exact eP_some _ _ _
theorem opP_nb(tb te:TypeId)(t:FT)(H:LHeap)(kv kp:HP):opP E F (.nb tb te) t H kv kp=kv (.ptr H.next 0) ⟨(H.next,.bld tb te [])::H.objs,H.next+1⟩:=by
 show effP E _ t H kv=_
 rw[effP_of1 rfl];exact eP_some _ _ _
def muL(H:LHeap)(e:EqK)(m k v:LV):Option LHeap:=match m with
  |.map o=>match look o H.objs with
   |some (.map es)=>if (eqK e k k).isNone then none else (setL e k v es).map fun es'=>H.put o (.map es')
   |_=>none
  |_=>none
theorem opP_mu(e:EqK)(m i v:BO)(t:FT)(H:LHeap)(kv kp:HP):opP E F (.mu e m i v) t H kv kp=evP E m t fun a=>evP E i t fun b=>evP E v t fun c=>vP (muL H e a b c) fun H'=>kv .bot H':=by
 show effP E _ t H kv=_
 rw[effP_of1 rfl]
 unfold evP
 have:effB E t.get H (.mu e m i v)=(muL H e (E.ev t.get m) (E.ev t.get i) (E.ev t.get v)).map fun H'=>(LV.bot,H'):=by
  simp only[effB,muL]
  cases E.ev t.get m with
  |map o=>
   simp only
   cases look o H.objs with
   |none=>rfl
   |some ob=>
    cases ob with
    |map es=>
     simp only
     split
     ·rfl
     ·rw[Option.map_map];rfl
    |_=>rfl
  |_=>rfl
 rw[this]
 unfold eP vP
 apply propext
 constructor
 ·rintro⟨v,H',h1,h2⟩
  obtain⟨H'',h3,h4⟩:=Option.map_eq_some_iff.1 h1
  cases h4
  exact⟨_,h3,h2⟩
 ·rintro⟨H',h1,h2⟩
  exact⟨_,_,by rw[h1];rfl,h2⟩
def rgL(H:LHeap)(x:LV):Option (LV×LHeap):=match x with
  |.sc (.map none)=>some (.ptr H.next 0,H.alloc (.iter H.next [] none 0))
  |.map o=>match look o H.objs with
   |some (.map es)=>some (.ptr H.next 0,H.alloc (.iter o (List.range es.length) none es.length))
   |_=>none
  |_=>none
theorem opP_rg(x:BO)(t:FT)(H:LHeap)(kv kp:HP):opP E F (.rg x) t H kv kp=evP E x t fun a=>eP (rgL H a) kv:=by
 show effP E _ t H kv=_
 rw[effP_of1 rfl];rfl
def enL(H:LHeap)(x:LV):Option LV:=match x with
  |.ptr o 0=>match look o H.objs with
   |some (.iter m _ (some i) n)=>match look m H.objs with
    |some (.map es)=>if es.length=n then (es[i]?).map fun kv=>.tup [kv.1,kv.2] else none
    |_=>none
   |_=>none
  |_=>none
theorem opP_en(x:BO)(t:FT)(H:LHeap)(kv kp:HP):opP E F (.en x) t H kv kp=evP E x t fun a=>vP (enL H a) fun v=>kv v H:=propext Iff.rfl
theorem pendP_nil(t:FT)(H:LHeap):pendP E t H []=True:=propext Iff.rfl
theorem pendP_d(d:Nat)(op:BOp)(p:List BI)(t:FT)(H:LHeap):pendP E t H (⟨some d,none,op⟩::p)=((getP t d fun u=>valP E op t H fun v=>u=v)/\pendP E t H p):=by
 apply propext
 constructor
 ·rintro⟨⟨_,h1,h2⟩,h3⟩;cases h1;exact⟨h2,h3⟩
 ·rintro⟨h2,h3⟩;exact⟨⟨_,rfl,h2⟩,h3⟩
theorem pendP_g(d j:Nat)(b:Bool)(op:BOp)(p:List BI)(t:FT)(H:LHeap):pendP E t H (⟨some d,some (j,b),op⟩::p)=((getP t j fun u=>gP b u (getP t d fun u=>valP E op t H fun v=>u=v) True)/\pendP E t H p):=by
 have:(∃d',some d=some d'/\getP t d' fun u=>valP E op t H fun v=>u=v)=(getP t d fun u=>valP E op t H fun v=>u=v):=
  propext ⟨fun⟨_,h1,h2⟩=>(by cases h1;exact h2),fun h=>⟨d,rfl,h⟩⟩
 show (wantP (some (j,b)) t (∃d',some d=some d'/\getP t d' fun u=>valP E op t H fun v=>u=v) True/\_)=_
 rw[this];exact propext Iff.rfl
theorem drwP_nil(t:FT)(H:LHeap)(k:XP):drwP E F [] t H k=k .normal t H:=propext Iff.rfl
def dopP(E:Env)(F:Fns)(op:BOp)(p:List BI)(t:FT)(H:LHeap)(kv kp:HP):Prop:=match op with
    |.pn _=>False
    |.nx _=>False
    |.cf f as=>evsP E as t fun vs=>cP E F f vs H (fun v H'=>pendP E t H' p/\kv v H') kp
    |.cl x as=>evP E x t fun u=>evsP E as t fun vs=>clfP E F u vs H (fun v H'=>pendP E t H' p/\kv v H') kp
    |.al _|.bx _|.st _ _ _|.ap _ _ _|.mk|.nb _ _|.mu _ _ _ _|.ms _ _|.rg _=>opP E F op t H (fun v H'=>pendP E t H' p/\kv v H') kp
    |op=>opP E F op t H kv kp
theorem drwP_d(d:Nat)(op:BOp)(p:List BI)(l:List (BI×List BI))(t:FT)(H:LHeap)(k:XP):
  drwP E F ((⟨some d,none,op⟩,p)::l) t H k=dopP E F op p t H (fun v H'=>setP t d v fun t'=>drwP E F l t' H' k) (fun v H'=>k (.pan v) .nil H'):=by
 cases op<;>exact propext Iff.rfl
theorem drwP_x(op:BOp)(p:List BI)(l:List (BI×List BI))(t:FT)(H:LHeap)(k:XP):
  drwP E F ((⟨none,none,op⟩,p)::l) t H k=dopP E F op p t H (fun _ H'=>drwP E F l t H' k) (fun v H'=>k (.pan v) .nil H'):=by
 cases op<;>exact propext Iff.rfl
theorem drwP_gt(d j:Nat)(op:BOp)(p:List BI)(l:List (BI×List BI))(t:FT)(H:LHeap)(k:XP):
  drwP E F ((⟨some d,some (j,true),op⟩,p)::l) t H k=getP t j fun u=>gP true u (dopP E F op p t H (fun v H'=>setP t d v fun t'=>drwP E F l t' H' k) (fun v H'=>k (.pan v) .nil H')) (setP t d (.tup []) fun t'=>drwP E F l t' H k):=by
 cases op<;>exact propext Iff.rfl
theorem drwP_gf(d j:Nat)(op:BOp)(p:List BI)(l:List (BI×List BI))(t:FT)(H:LHeap)(k:XP):
  drwP E F ((⟨some d,some (j,false),op⟩,p)::l) t H k=getP t j fun u=>gP false u (dopP E F op p t H (fun v H'=>setP t d v fun t'=>drwP E F l t' H' k) (fun v H'=>k (.pan v) .nil H')) (setP t d (.tup []) fun t'=>drwP E F l t' H k):=by
 cases op<;>exact propext Iff.rfl
theorem look_self(i:Nat)(o:LObj)(l:List (Nat×LObj)):look i ((i,o)::l)=some o:=by simp[look]
theorem look_ne{i j:Nat}(h:i≠j)(o:LObj)(l:List (Nat×LObj)):look i ((j,o)::l)=look i l:=by simp[look,h]
theorem put_self(i n:Nat)(o o':LObj)(l:List (Nat×LObj)):LHeap.put ⟨(i,o)::l,n⟩ i o'=⟨(i,o')::l,n⟩:=by simp[LHeap.put,putO]
theorem putO_self(i:Nat)(o o':LObj)(l:List (Nat×LObj)):putO i o' ((i,o)::l)=(i,o')::l:=by simp[putO]
theorem putO_ne{i j:Nat}(h:i≠j)(o o':LObj)(l:List (Nat×LObj)):putO i o' ((j,o)::l)=(j,o)::putO i o' l:=by simp[putO,h]
theorem put_eq(H:LHeap)(i:Nat)(o:LObj):H.put i o=⟨putO i o H.objs,H.next⟩:=rfl
theorem natOf_nat(kk:IntKind)(n:Nat):natOf (.sc (.int kk (n:Int)))=some n:=by simp[natOf]
end
end Go.Abs
