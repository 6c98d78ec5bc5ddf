/- Part of the proof that the law CustomKeepsYears holds. Conditions: none. -/
import Derived.Test.YtjbhehjoaalhiaaGreatDoorPartD
import Derived.Test.YtjbhehjoaalhiaaGreatDoorPartG
set_option linter.unusedVariables false
set_option linter.unusedSimpArgs false
set_option linter.unusedSectionVars false
namespace Go.Abs
open Go
section
variable{E:Env}{F:Fns}
theorem qiA{c:qk}{t:FT}{H:qa}{k k':XP}(h:lP E F c t H k)(hk:∀e t' H',k e t' H'->k' e t' H'):lP E F c t H k':=
 fun hH=>.mono (h hH) fun r hr=>by
  obtain⟨e,t',H',h1,h2,h3⟩:=hr
  exact⟨e,t',H',h1,h2,hk _ _ _ h3⟩
theorem yA{a b:qk}{t:FT}{H:qa}{k:XP}(h:lP E F a t H (qcR (fun t' H'=>lP E F b t' H' k) k)):lP E F (.seq a b) t H k:=by
 intro hH
 refine .seq (h hH) (fun fr df H' hT=>?_) (fun e fr df H' hT hne=>?_)
 ·obtain⟨e,t',H'',he,hok,hk⟩:=hT
  cases he
  exact hk hok
 ·obtain⟨e',t',H'',he,hok,hk⟩:=hT
  cases he
  cases e with
  |normal=>exact absurd rfl hne
  |exit n=>exact⟨_,t',H',rfl,hok,hk⟩
  |ret=>exact⟨_,t',H',rfl,hok,hk⟩
  |pan v=>exact⟨_,t',H',rfl,hok,hk⟩
theorem qnb{c:qk}{t:FT}{H:qa}{k:XP}(h:H.Ok->lP E F c t H k):lP E F c t H k:=fun hH=>h hH hH
theorem qdn{b:BFn}{f:FuncId}{args:List LV}{H:qa}{kv kp:HP}(hf:F.fn f b)(hn:args.length<=b.n)
  (h:H.Ok->qcG args 0 .nil fun t=>lP E F b.body t H (qdX E b (fun v H'=>∃H'',HWk H' H''/\(H'.Ok->H''.Ok)/\kv v H'') kp)):cP E F f args H kv kp:=by
 intro hH
 obtain⟨t,h1,h2⟩:=qfz (h hH)
 have ht:t.get=zu args:=by
  funext j
  rw[h2 j]
  simp only[zu]
  by_cases hj:j<args.length
  ·rw[if_pos (by omega)];simp
  ·rw[if_neg (by omega)]
   have:args[j]? = none:=List.getElem?_eq_none (by omega)
   simp[List.getD_eq_getElem?_getD,this,FT.get_nil]
 have hb:=h1 hH
 rw[ht]at hb
 refine .enter hf hn hb (fun fr df H' hT=>?_) (fun v fr df H' hT=>?_) (fun n fr df H' hT=>?_)
 ·have:∃(t':FT),fr=t'.get/\df=[]/\H'.Ok/\yZ E b.res t' H' fun v=>∃H'',HWk H' H''/\(H'.Ok->H''.Ok)/\kv v H'':=by
   rcases hT with⟨e,t',H'',he,hok,hk⟩|⟨e,t',H'',he,hok,hk⟩<;>cases he
   ·exact⟨t',rfl,rfl,hok,hk⟩
   ·exact⟨t',rfl,rfl,hok,hk⟩
  obtain⟨t',rfl,rfl,hok,v,hv,H1,h3,h4,h5⟩:=this
  exact⟨rfl,v,v,H1,hv,.inl rfl,h3,.inl ⟨v,H1,rfl,h4 hok,h5⟩⟩
 ·obtain⟨e,t',H'',he,hok,hk⟩:=hT
  cases he
  exact⟨rfl,v,H',.inl rfl,⟨Nat.le_refl _,fun _ _ h=>h⟩,.inr ⟨v,H',rfl,hok,hk⟩⟩
 ·obtain⟨e,t',H'',he,hok,hk⟩:=hT
  cases he
  cases hk
end
end Go.Abs
namespace Go.Abs.Tz
open Go Go.Abs Go.Proofs
set_option maxRecDepth 20000
set_option linter.unusedSimpArgs false
attribute [local simp ↓] gF gD uZ uY gd zX qW zk uX zU yq yr gG gI gJ gH jd jg jj je jk jl jh ji jf jb u9 jc ja yo ym yp yn gA gy gC gz gM gK gL ue zz jm qS jn gg yt yu gQ gT gS gN gO g8 jp jw jz jv jx jy j5 j3 jF jH uH uE uS uV uF uN uR uQ uP uO uL uA uB uC uD uT uJ uK uy uU uW uG uI uM uz jL jG jY j8 jI jT jX jW jV jU jR jD j0 jP jQ jA j7 j9 jJ jN jS jB gb j6 jC ga jO jK jM jE jZ jq ju jr gY g7 gW gZ g6 qm uo
attribute [local simp] faL fdL iaL ixL za q9 qN eqK eqL qL ze ut gV yk g9 yb yd yf yh yj ya ye yc yg zr LV.cells LV.whole qm uf zK jo stL zw zF zV qa.alloc ge gc gf gw gv gu gt gq gp gk gj gi gh qd ug
theorem qmA{k j:PK}{v:Int}{m:List (PK×Int)}:j∈qB (zG k v m)↔j=k\/j∈qB m:=by
 rw[qdH]
 split
 ·rename_i h
  have:=qjI.1 h
  constructor
  ·exact .inr
  ·rintro(rfl|h)
   ·exact this
   ·exact h
 ·rw[List.mem_append,List.mem_singleton]
  exact⟨fun h=>h.symm,fun h=>h.symm⟩
theorem qmu{k:PK}{v:Int}{m:List (PK×Int)}(h:(qB m).Nodup):(qB (zG k v m)).Nodup:=by
 rw[qdH]
 split
 ·exact h
 ·rename_i hn
  refine List.nodup_append.2 ⟨h,by simp,fun a ha b hb=>?_⟩
  rw[List.mem_singleton.1 hb]
  rintro rfl
  exact hn (qjI.2 ha)
def vp(c:qe):List PK:=ofA c.head::(c.body.filter fun x=>decide (x.kind=1)||decide (x.kind=2)).map fun x=>ofA x.atom
theorem quz(b:List Lit):∀m:List (PK×Int),(∀k,qp m k=0)->(∀k,qp (b.foldl wd m) k=0)/\((qB m).Nodup->(qB (b.foldl wd m)).Nodup) /\
  (∀k,k∈qB (b.foldl wd m)↔k∈qB m\/k∈(b.filter fun x=>decide (x.kind=1)||decide (x.kind=2)).map fun x=>ofA x.atom)/\(b.foldl wd m).length<=m.length+b.length:=by
 induction b with
 |nil=>intro m h;exact⟨h,id,fun k=>by simp,Nat.le_refl _⟩
 |cons x b ih=>
  intro m h
  rw[List.foldl_cons,List.filter_cons]
  have hx:∀k,qp (wd m x) k=0:=by
   intro k
   unfold wd
   split
   ·rw[qcp];split
    ·rfl
    ·exact h k
   ·exact h k
  have hlen:(wd m x).length<=m.length+1:=by
   unfold wd
   split
   ·have:=congrArg List.length (qdH (ofA x.atom) 0 m)
    rw[wR]at this
    rw[this]
    split
    ·rw[wR];omega
    ·simp[wR]
   ·omega
  obtain⟨a1,a2,a3,a4⟩:=ih (wd m x) hx
  refine⟨a1,fun hn=>a2 ?_,fun k=>?_,by simp only[List.length_cons];omega⟩
  ·unfold wd;split
   ·exact qmu hn
   ·exact hn
  ·rw[a3]
   unfold wd
   split
   ·rename_i hc
    rw[qmA]
    simp only[List.map_cons,List.mem_cons]
    constructor
    ·rintro((h|h)|h)
     ·exact .inr (.inl h)
     ·exact .inl h
     ·exact .inr (.inr h)
    ·rintro(h|h|h)
     ·exact .inl (.inr h)
     ·exact .inl (.inl h)
     ·exact .inr h
   ·rfl
theorem qiJ(l:List qe):∀m:List (PK×Int),(∀k,qp m k=0)->(∀k,qp (l.foldl yN m) k=0)/\((qB m).Nodup->(qB (l.foldl yN m)).Nodup) /\
  (∀k,k∈qB (l.foldl yN m)↔k∈qB m\/∃c∈l,k∈vp c)/\(l.foldl yN m).length<=m.length+(l.map fun c=>c.body.length+1).sum:=by
 induction l with
 |nil=>intro m h;exact⟨h,id,fun k=>by simp,Nat.le_refl _⟩
 |cons c l ih=>
  intro m h
  rw[List.foldl_cons]
  have h0:∀k,qp (zG (ofA c.head) 0 m) k=0:=fun k=>by
   rw[qcp];split
   ·rfl
   ·exact h k
  have hlen0:(zG (ofA c.head) 0 m).length<=m.length+1:=by
   have:=congrArg List.length (qdH (ofA c.head) 0 m)
   rw[wR]at this
   rw[this]
   split
   ·rw[wR];omega
   ·simp[wR]
  obtain⟨b1,b2,b3,b4⟩:=quz c.body (zG (ofA c.head) 0 m) h0
  obtain⟨a1,a2,a3,a4⟩:=ih (yN m c) b1
  refine⟨a1,fun hn=>a2 (b2 (qmu hn)),fun k=>?_,?_⟩
  ·rw[a3]
   unfold yN
   rw[b3,qmA]
   have hp:k∈vp c↔k=ofA c.head\/k∈(c.body.filter fun x=>decide (x.kind=1)||decide (x.kind=2)).map fun x=>ofA x.atom:=by unfold vp;exact List.mem_cons
   constructor
   ·rintro(((h|h)|h)|⟨c',hc,h⟩)
    ·exact .inr ⟨c,List.mem_cons_self,hp.2 (.inl h)⟩
    ·exact .inl h
    ·exact .inr ⟨c,List.mem_cons_self,hp.2 (.inr h)⟩
    ·exact .inr ⟨c',List.mem_cons_of_mem _ hc,h⟩
   ·rintro(h|⟨c',hc,h⟩)
    ·exact .inl (.inl (.inr h))
    ·rcases List.mem_cons.1 hc with rfl|hc
     ·rcases hp.1 h with h|h
      ·exact .inl (.inl (.inl h))
      ·exact .inl (.inr h)
     ·exact .inr ⟨c',hc,h⟩
  ·simp only[List.map_cons,List.sum_cons]
   unfold yN at a4 ⊢
   omega
def a77:qk:=match b85.body with
 |.seq x _=>x
 |_=>.bad
def m77:qk:=match b85.body with
 |.seq _ (.seq x _)=>x
 |_=>.bad
def r77:qk:=match b85.body with
 |.seq _ (.seq _ (.seq _ (.seq _ x)))=>x
 |_=>.bad
theorem qwA:b85.body=.seq a77 (.seq m77 (.seq i77 (.seq w77 r77))):=rfl
theorem qmY{s t:FT}(h:FT.Le s t)(k:Nat){v:Value}(e:s.get k=.sc v):t.get k=.sc v:=by
 have:=h.fwk k
 rw[e]at this
 rcases this with h|h|h
 ·exact h.symm
 ·cases hx:t.get k<;>rw[hx]at h<;>simp[LV.strip]at h
  rw[h]
 ·cases h
theorem qkx(l:List qe)(hl:l.length<2^40)(hb:∀c∈l,c.body.length<2^40)(hm:(l.foldl yN []).length<2^40)(fuel:Nat)(R:Option (List (PK×Int)))(hR:vN l fuel (l.foldl yN [])=some R)(H:qa){kv kp:HP}
  (hk1:R=none->∀n,H.next<=n->kv (.tup [.sc (.map none),.bool false]) ⟨H.objs,n⟩) (hk2:∀m,R=some m->∀n,H.next<n->kv (.tup [.map H.next,.bool true]) ⟨(H.next,.map (qO m))::H.objs,n⟩):
  cP E0 F0 85 [qF l] H kv kp:=by
 refine qdn c85 (Nat.le_of_ble_eq_true rfl) fun hH=>?_
 rw[qwA]
 obtain⟨i1,i2,i3,_⟩:=qiJ l [] fun k=>rfl
 obtain⟨I,hI⟩:∃I,l.foldl yN []=I:=⟨_,rfl⟩
 simp(disch:=omega)
 refine yA (zD ?_)
 simp(disch:=omega)[a77,b85]
 refine yA (zD ?_)
 simp(disch:=omega)[m77,b85]
 have hH2:qa.Ok ⟨(H.next,.map [])::H.objs,H.next+1⟩:=⟨Nat.lt_succ_self _,hH⟩
 have ho:look H.next ((H.next,qc.map [])::H.objs)=some (.map (qO [])):=by simp[look]
 refine wc (t':=(FT.nd (qF l) (FT.nd .bot (FT.nd (.bool false) .nil .nil) .nil) (FT.nd (.sc (.map none)) (FT.nd (.map H.next) .nil .nil) .nil))) (fun l h=>by cases h) (by simp[FT.Le,Wk]) (HWk.refl _) (fun h=>h) ?_
 refine yA (qiA (qrc l hl hb H.next [] _ (H.next+1) ho) ?_)
 rintro e t' H' ⟨rfl,hle,n,hn,hwk,hok⟩
 have hp:∀m:List (PK×Int),qx H.next (.map (qO m)) ((H.next,qc.map [])::H.objs)=(H.next,.map (qO m))::H.objs:=fun m=>by simp[qx]
 rw[hI]at hwk hok hm hR
 rw[hI]at i1 i2 i3
 show lP E0 F0 (.seq w77 r77) t' H' _
 refine wc (fun l h=>by cases h) hle hwk hok ?_
 refine yA (qiA (qqB l hl hb (qB I) (by rw[wR];exact hm) (fun c hc=>(i3 _).2 (.inr ⟨c,hc,List.mem_cons_self⟩)) I rfl (fun k=>⟨by rw[i1 k];omega,by rw[i1 k];omega⟩) fuel R hR H.next _ _ n ho) ?_)
 rintro e t2 H2 ⟨n2,m1,hn2,hwk2,hok2,h3|h3⟩
 ·obtain⟨rfl,rfl,hle2⟩:=h3
  have g2:t2.get 2=.sc (.map none):=qmY hle2 2 rfl
  have g3:t2.get 3=.bool false:=qmY hle2 3 rfl
  rw[hp]at hwk2 hok2
  show yZ E0 b85.res t2 H2 _
  rw[show b85.res=[.t 2,.t 3] from rfl,zz]
  unfold zA
  rw[g2,g3]
  refine⟨⟨H.objs,n2⟩,⟨hwk2.1,fun i x hx=>hwk2.2 i x ?_⟩,fun h=>(hok2 h).2.mono (by show H.next<=n2;omega),hk1 rfl n2 (by omega)⟩
  have:=hH.look hx
  simp only[look]
  rw[if_neg (by omega)]
  exact hx
 ·obtain⟨rfl,rfl,hle2⟩:=h3
  show lP E0 F0 r77 t2 H2 _
  refine wc (fun l h=>by cases h) hle2 hwk2 hok2 ?_
  rw[hp]
  refine zD ?_
  simp(disch:=omega)[r77,b85,zz]
  exact keep (hk2 _ rfl _ (by omega))
end Go.Abs.Tz
namespace Go.Abs.Tz
open Go Go.Abs Go.Proofs
def wE(h:PK)(x:Lit):Option (wn PK):=if x.kind=1 then some (h,ofA x.atom,0) else if x.kind=2 then some (h,ofA x.atom,1) else none
def qfq(c:qe):List (wn PK):=c.body.filterMap (wE (ofA c.head))
def yS(l:List qe):List (wn PK):=l.flatMap qfq
def qJ(m:List (PK×Int)):PK->Nat:=fun k=>(qp m k).toNat
def NN0(m:List (PK×Int)):Prop:=∀k,0<=qp m k
theorem qtV{h:PK}{s:List (PK×Int)×Bool}{x:Lit}(h0:NN0 s.1):
  NN0 (yz h s x).1/\qJ (yz h s x).1=(match wE h x with|none=>qJ s.1|some e=>qau (qJ s.1) e)/\(∀k,qp s.1 k<=qp (yz h s x).1 k)/\(∀k,k≠h->qp (yz h s x).1 k=qp s.1 k) /\
  ((yz h s x).2=false->yz h s x=s)/\((yz h s x).2=true->s.2=true\/qp s.1 h<qp (yz h s x).1 h):=by
 have hl:∀e,wE h x=some e->e.1=h/\wT s.1 x=qp s.1 e.2.1+e.2.2:=by
  intro e he
  unfold wE at he
  unfold wT
  by_cases h1:x.kind=1
  ·rw[if_pos h1]at he;cases he;rw[if_pos h1];exact⟨rfl,by simp⟩
  ·rw[if_neg h1]at he
   rw[if_neg h1]
   by_cases h2:x.kind=2
   ·rw[if_pos h2]at he;cases he;rw[if_pos h2];exact⟨rfl,by simp⟩
   ·rw[if_neg h2]at he;cases he
 have hn:wE h x=none->wT s.1 x=-1:=by
  intro he
  unfold wE at he
  unfold wT
  by_cases h1:x.kind=1
  ·rw[if_pos h1]at he;cases he
  ·rw[if_neg h1]at he
   by_cases h2:x.kind=2
   ·rw[if_pos h2]at he;cases he
   ·rw[if_neg h1,if_neg h2]
 have hh:=h0 h
 by_cases hc:qp s.1 h<wT s.1 x
 ·have e0:yz h s x=(zG h (wT s.1 x) s.1,true):=by unfold yz;rw[if_pos hc]
  rw[e0]
  refine⟨fun k=>?_,?_,fun k=>?_,fun k hk=>?_,fun h=>(by cases h),fun _=>.inr ?_⟩
  ·dsimp only;rw[qcp];split
   ·omega
   ·exact h0 k
  ·cases he:wE h x with
   |none=>rw[hn he]at hc;omega
   |some e=>
    obtain⟨h1,h2⟩:=hl e he
    funext k
    unfold qau qJ
    dsimp only
    rw[qcp,h1]
    by_cases hk:k=h
    ·rw[if_pos hk,if_pos hk,h2,hk]
     have:=h0 e.2.1
     rw[h2]at hc
     omega
    ·rw[if_neg hk,if_neg hk]
  ·dsimp only;rw[qcp];split
   ·rename_i hk;rw[hk];omega
   ·omega
  ·dsimp only;rw[qcp,if_neg hk]
  ·dsimp only;rw[qcp,if_pos rfl];exact hc
 ·have e0:yz h s x=s:=by unfold yz;rw[if_neg hc]
  rw[e0]
  refine⟨h0,?_,fun k=>by omega,fun _ _=>rfl,fun _=>rfl,fun h=>.inl h⟩
  cases he:wE h x with
  |none=>rfl
  |some e=>
   obtain⟨h1,h2⟩:=hl e he
   funext k
   unfold qau qJ
   dsimp only
   rw[h1]
   by_cases hk:k=h
   ·rw[if_pos hk,hk]
    rw[h2]at hc
    have:=h0 e.2.1
    omega
   ·rw[if_neg hk]
structure qaH(Hd:PK->Prop)(s t:List (PK×Int)×Bool):Prop where
 nn:NN0 t.1
 le:∀k,qp s.1 k<=qp t.1 k
 oth:∀k,¬Hd k->qp t.1 k=qp s.1 k
 no:t.2=false->t=s
 yes:t.2=true->s.2=true\/∃k,Hd k/\qp s.1 k<qp t.1 k
theorem qaH.refl{Hd:PK->Prop}{s:List (PK×Int)×Bool}(h:NN0 s.1):qaH Hd s s:=⟨h,fun _=>Int.le_refl _,fun _ _=>rfl,fun _=>rfl,fun h=>.inl h⟩
theorem qaH.trans{Hd:PK->Prop}{s t u:List (PK×Int)×Bool}(h1:qaH Hd s t)(h2:qaH Hd t u):qaH Hd s u where
 nn:=h2.nn
 le k:=Int.le_trans (h1.le k) (h2.le k)
 oth k hk:=(h2.oth k hk).trans (h1.oth k hk)
 no h:=by
  have e:=h2.no h
  rw[e]at h ⊢
  exact h1.no h
 yes h:=by
  rcases h2.yes h with h|⟨k,hk,hlt⟩
  ·rcases h1.yes h with h|⟨k,hk,hlt⟩
   ·exact .inl h
   ·exact .inr ⟨k,hk,by have:=h2.le k;omega⟩
  ·exact .inr ⟨k,hk,by have:=h1.le k;omega⟩
theorem qaH.mono{Hd Hd':PK->Prop}{s t:List (PK×Int)×Bool}(h:qaH Hd s t)(hh:∀k,Hd k->Hd' k):qaH Hd' s t where
 nn:=h.nn
 le:=h.le
 oth k hk:=h.oth k fun e=>hk (hh k e)
 no:=h.no
 yes e:=(h.yes e).imp id fun⟨k,hk,hlt⟩=>⟨k,hh k hk,hlt⟩
theorem qha{h:PK}:∀(b:List Lit)(s:List (PK×Int)×Bool),NN0 s.1->qaH (fun k=>k=h) s (b.foldl (yz h) s)/\qJ (b.foldl (yz h) s).1=y6 (b.filterMap (wE h)) (qJ s.1)/\(h∈qB s.1->qB (b.foldl (yz h) s).1=qB s.1)
 |[],s,h0=>⟨.refl h0,rfl,fun _=>rfl⟩
 |x::b,s,h0=>by
  obtain⟨a1,a2,a3,a4,a5,a6⟩:=qtV (h:=h) (x:=x) h0
  obtain⟨b1,b2,b3⟩:=qha b (yz h s x) a1
  have h1:qaH (fun k=>k=h) s (yz h s x):=⟨a1,a3,a4,a5,fun e=>(a6 e).imp id fun hlt=>⟨h,rfl,hlt⟩⟩
  rw[List.foldl_cons]
  refine⟨h1.trans b1,?_,fun hk=>?_⟩
  ·rw[b2,a2,List.filterMap_cons]
   cases wE h x<;>rfl
  ·have hk':=qmO (x:=x) hk
   rw[b3 (by rw[hk'];exact hk),hk']
def quF(l:List qe)(k:PK):Prop:=∃c∈l,ofA c.head=k
theorem qsO{K:Type}[DecidableEq K](A B:List (wn K))(f:K->Nat):y6 (A++B) f=y6 B (y6 A f):=List.foldl_append
theorem qcT:∀(l:List qe)(s:List (PK×Int)×Bool),NN0 s.1->qaH (quF l) s (l.foldl ul s)/\qJ (l.foldl ul s).1=y6 (yS l) (qJ s.1)/\((∀c∈l,ofA c.head∈qB s.1)->qB (l.foldl ul s).1=qB s.1)
 |[],s,h0=>⟨.refl h0,rfl,fun _=>rfl⟩
 |c::l,s,h0=>by
  obtain⟨a1,a2,a3⟩:=qha (h:=ofA c.head) c.body s h0
  obtain⟨b1,b2,b3⟩:=qcT l (ul s c) a1.nn
  rw[List.foldl_cons]
  refine⟨(a1.mono fun k hk=>⟨c,List.mem_cons_self,hk.symm⟩).trans (b1.mono fun k ⟨c',h1,h2⟩=>⟨c',List.mem_cons_of_mem _ h1,h2⟩),?_,fun hk=>?_⟩
  ·rw[b2]
   show y6 (yS l) (qJ (ul s c).1)=y6 (qfq c++yS l) (qJ s.1)
   rw[qsO]
   show _=y6 (yS l) (y6 (qfq c) (qJ s.1))
   unfold ul
   rw[a2]
   rfl
  ·have hc:=a3 (hk c List.mem_cons_self)
   have hc':qB (ul s c).1=qB s.1:=hc
   rw[b3 fun c' h'=>by rw[hc'];exact hk c' (List.mem_cons_of_mem _ h'),hc']
theorem qhO{N:Int}:∀(l:List qe)(s t:List (PK×Int)×Bool),NN0 s.1->(∀c∈l,ofA c.head∈qB s.1)->((qB s.1).length:Int)=N->qab l s=some t->t=l.foldl ul s/\(InP s.1 N->InP t.1 N)
 |[],s,t,_,_,_,h=>by cases h;exact⟨rfl,id⟩
 |c::l,s,t,h0,hk,hN,h=>by
  obtain⟨a1,a2,a3⟩:=qha (h:=ofA c.head) c.body s h0
  have hc:=a3 (hk c List.mem_cons_self)
  have hc':qB (ul s c).1=qB s.1:=hc
  simp only[qab]at h
  split at h
  ·cases h
  ·rename_i hle
   obtain⟨b1,b2⟩:=qhO (N:=N) l (ul s c) t a1.nn (fun c' h'=>by rw[hc'];exact hk c' (List.mem_cons_of_mem _ h')) (by rw[hc'];exact hN) h
   refine⟨b1,fun hin=>b2 fun k=>⟨a1.nn k,?_⟩⟩
   have hlen:((ul s c).1.length:Int)=N:=by rw[<-hN,<-hc',wR]
   by_cases hkh:k=ofA c.head
   ·rw[hkh];omega
   ·have:qp (ul s c).1 k=qp s.1 k:=a1.oth k hkh
    rw[this];exact(hin k).2
theorem qhP{F:PK->Nat}{N:Nat}:∀(l:List qe)(s:List (PK×Int)×Bool),NN0 s.1->(∀c∈l,ofA c.head∈qB s.1)->(qB s.1).length=N->(∀k,qJ s.1 k<=F k)->yH (yS l) F->(∀k∈qB s.1,F k<N)->qab l s≠none
 |[],_,_,_,_,_,_,_=>by simp[qab]
 |c::l,s,h0,hk,hN,hle,hs,hF=>by
  obtain⟨a1,a2,a3⟩:=qha (h:=ofA c.head) c.body s h0
  have hc:=a3 (hk c List.mem_cons_self)
  have hc':qB (ul s c).1=qB s.1:=hc
  have hs1:yH (qfq c) F:=fun e he=>hs e (List.mem_append_left _ he)
  have hs2:yH (yS l) F:=fun e he=>hs e (List.mem_append_right _ he)
  have hle2:∀k,qJ (ul s c).1 k<=F k:=by
   intro k
   have:qJ (ul s c).1=y6 (qfq c) (qJ s.1):=a2
   rw[this]
   exact qcY hs1 hle k
  have hlen:(ul s c).1.length=N:=by rw[<-hN,<-hc',wR]
  simp only[qab]
  rw[if_neg]
  ·exact qhP (N:=N) l (ul s c) a1.nn (fun c' h'=>by rw[hc'];exact hk c' (List.mem_cons_of_mem _ h')) (by rw[hc'];exact hN) hle2 hs2 (by rw[hc'];exact hF)
  ·have h1:=hle2 (ofA c.head)
   have h2:=hF _ (hk c List.mem_cons_self)
   have h3:=a1.nn (ofA c.head)
   unfold qJ at h1
   have h3':0<=qp (ul s c).1 (ofA c.head):=h3
   omega
structure qcc(l:List qe)(V:List PK)(m:List (PK×Int)):Prop where
 keys:qB m=V
 nn:NN0 m
 sol:yH (yS l) (qJ m)
 le:∀g,yH (yS l) g->∀k,qJ m k<=g k
def qfH(l:List qe)(V:List PK)(R:Option (List (PK×Int))):Prop:=match R with
 |none=>¬∃g,yH (yS l) g
 |some m=>qcc l V m
theorem qfr{l:List qe}{V:List PK}(hV:∀c∈l,∀k∈vp c,k∈V):∀e∈yS l,e.1∈V/\e.2.1∈V/\e.2.2<=1:=by
 intro e he
 obtain⟨c,hc,he⟩:=List.mem_flatMap.1 he
 obtain⟨x,hx,he⟩:=List.mem_filterMap.1 he
 have h1:ofA c.head∈V:=hV c hc _ List.mem_cons_self
 have h2:x.kind=1\/x.kind=2->ofA x.atom∈V:=fun hk=>hV c hc _ (List.mem_cons_of_mem _ (List.mem_map.2 ⟨x,List.mem_filter.2 ⟨hx,by simpa using hk⟩,rfl⟩))
 unfold wE at he
 split at he
 ·rename_i hk;cases he;exact⟨h1,h2 (.inl hk),by simp⟩
 ·split at he
  ·rename_i hk;cases he;exact⟨h1,h2 (.inr hk),by simp⟩
  ·cases he
theorem qrT{V:List PK}{f:PK->Nat}{N:Nat}(h:∀k∈V,f k<=N):yY V f<=V.length*N:=by
 induction V with
 |nil=>exact Nat.zero_le _
 |cons a V ih=>
  have h1:=h a List.mem_cons_self
  have h2:=ih fun k hk=>h k (List.mem_cons_of_mem _ hk)
  simp only[yY,List.map_cons,List.sum_cons,List.length_cons,Nat.add_mul]at h2 ⊢
  omega
theorem qio{l:List qe}{m m':List (PK×Int)}(h0:NN0 m)(h:(m',false)=l.foldl ul (m,false)):m'=m/\yH (yS l) (qJ m):=by
 obtain⟨a1,a2,a3⟩:=qcT l (m,false) h0
 have e:m'=m:=by
  have:=a1.no (by rw[<-h])
  rw[<-h]at this
  exact(Prod.mk.inj this).1
 refine⟨e,qrZ fun e' _=>?_⟩
 rw[<-h,e]at a2
 have a2':qJ m=y6 (yS l) (qJ m):=a2
 rw[<-a2']
theorem qgX{l:List qe}{V:List PK}{m m':List (PK×Int)}(hh:∀c∈l,ofA c.head∈V)(h0:NN0 m)(h:(m',true)=l.foldl ul (m,false)):∃k∈V,qJ m k<qJ m' k/\∀k,qJ m k<=qJ m' k:=by
 obtain⟨a1,a2,a3⟩:=qcT l (m,false) h0
 rw[<-h]at a1
 rcases a1.yes rfl with h|⟨k,⟨c,hc,hk⟩,hlt⟩
 ·cases h
 ·have hlt':qp m k<qp m' k:=hlt
  refine⟨k,hk▸hh c hc,?_,fun k=>?_⟩
  ·have:=h0 k
   unfold qJ;omega
  ·have:qp m k<=qp m' k:=a1.le k
   unfold qJ;omega
theorem qwa{l:List qe}{V:List PK}(hV:∀c∈l,∀k∈vp c,k∈V):∀(d:Nat)(m:List (PK×Int)),qB m=V->InP m V.length->(∀g,yH (yS l) g->∀k,qJ m k<=g k)->V.length*V.length<=yY V (qJ m)+d ->
  ∃R,vN l (d+1) m=some R/\qfH l V R:=by
 have hh:∀c∈l,ofA c.head∈V:=fun c hc=>hV c hc _ List.mem_cons_self
 have hE:=qfr hV
 intro d
 induction d with
 |zero=>
  intro m hk hin hle hd
  have h0:NN0 m:=fun k=>(hin k).1
  cases hr:qab l (m,false) with
  |none=>
   refine⟨none,by simp[vN,hr],?_⟩
   rintro⟨g,hg⟩
   obtain⟨F,hF,hmin⟩:=qiz V hg
   exact qhP l (m,false) h0 (by rw[hk];exact hh) (by rw[hk]) (hle F hF) hF (fun k hk'=>qgB hF hmin (fun e he=>⟨(hE e he).1,(hE e he).2.1⟩) (fun e he=>(hE e he).2.2) (by rw[hk]at hk';exact hk')) hr
  |some t=>
   obtain⟨m',b⟩:=t
   obtain⟨h1,h2⟩:=qhO (N:=V.length) l (m,false) _ h0 (by rw[hk];exact hh) (by rw[hk]) hr
   have hin':=h2 hin
   cases b with
   |false=>
    obtain⟨rfl,hs⟩:=qio h0 h1
    exact⟨some m',by simp[vN,hr],hk,h0,hs,hle⟩
   |true=>
    obtain⟨k,hkV,hlt,hle'⟩:=qgX hh h0 h1
    have hs1:=qfU (V:=V) (fun k _=>hle' k) hkV hlt
    have hs2:=qrT (V:=V) (f:=qJ m') (N:=V.length) fun k _=>by
     have:qp m' k<=V.length:=(hin' k).2
     unfold qJ;omega
    omega
 |succ d ih=>
  intro m hk hin hle hd
  have h0:NN0 m:=fun k=>(hin k).1
  cases hr:qab l (m,false) with
  |none=>
   refine⟨none,by simp[vN,hr],?_⟩
   rintro⟨g,hg⟩
   obtain⟨F,hF,hmin⟩:=qiz V hg
   exact qhP l (m,false) h0 (by rw[hk];exact hh) (by rw[hk]) (hle F hF) hF (fun k hk'=>qgB hF hmin (fun e he=>⟨(hE e he).1,(hE e he).2.1⟩) (fun e he=>(hE e he).2.2) (by rw[hk]at hk';exact hk')) hr
  |some t=>
   obtain⟨m',b⟩:=t
   obtain⟨h1,h2⟩:=qhO (N:=V.length) l (m,false) _ h0 (by rw[hk];exact hh) (by rw[hk]) hr
   have hin':=h2 hin
   cases b with
   |false=>
    obtain⟨rfl,hs⟩:=qio h0 h1
    exact⟨some m',by simp[vN,hr],hk,h0,hs,hle⟩
   |true=>
    obtain⟨k,hkV,hlt,hle'⟩:=qgX hh h0 h1
    have hs1:=qfU (V:=V) (fun k _=>hle' k) hkV hlt
    obtain⟨a1,a2,a3⟩:=qcT l (m,false) h0
    rw[<-h1]at a2 a3
    have hk':qB m'=V:=(a3 (by rw[hk];exact hh)).trans hk
    obtain⟨R,hR,hE'⟩:=ih m' hk' hin' (fun g hg k=>by
     have a2':qJ m'=y6 (yS l) (qJ m):=a2
     rw[a2']
     exact qcY hg (hle g hg) k) (by omega)
    exact⟨R,by simp only[vN,hr];exact hR,hE'⟩
def qbG(l:List qe):Nat->List (PK×Int)->Option (List (PK×Int))
 |0,_=>none
 |n+1,m=>match l.foldl ul (m,false) with
  |(m',false)=>some m'
  |(m',true)=>if m'.any (fun e=>decide ((m'.length:Int)<e.2)) then none else qbG l n m'
theorem qgl:∀{m:List (PK×Int)},(qB m).Nodup->∀e∈m,qp m e.1=e.2
 |[],_,e,h=>by cases h
 |(j,u)::r,hn,e,h=>by
  obtain⟨h1,h2⟩:=List.nodup_cons.1 (show (j::qB r).Nodup from hn)
  unfold qp wb
  rcases List.mem_cons.1 h with rfl|h
  ·simp only;rw[if_pos (vR.2 rfl)];rfl
  ·have:¬wf e.1 j=true:=fun he=>h1 (by rw[<-vR.1 he];exact List.mem_map_of_mem h)
   rw[if_neg this]
   exact qgl h2 e h
theorem qsn{l:List qe}{V:List PK}(hV:∀c∈l,∀k∈vp c,k∈V){F:PK->Nat}(hF:yH (yS l) F)(hmin:∀g',yH (yS l) g'->yY V F<=yY V g')(hN:V.Nodup):
  ∀(n:Nat)(m:List (PK×Int)),qB m=V->NN0 m->(∀k,qJ m k<=F k)->(V.filter fun k=>decide (qJ m k≠F k)).length<=n->qbG l (n+1) m≠none:=by
 have hh:∀c∈l,ofA c.head∈V:=fun c hc=>hV c hc _ List.mem_cons_self
 have hE:=qfr hV
 have hE':∀e∈yS l,e.1∈V/\e.2.1∈V:=fun e he=>⟨(hE e he).1,(hE e he).2.1⟩
 intro n
 induction n with
 |zero=>
  intro m hk h0 hle hn
  obtain⟨⟨m',b⟩,hr⟩:∃t,l.foldl ul (m,false)=t:=⟨_,rfl⟩
  simp only[qbG,hr]
  cases b with
  |false=>simp
  |true=>
   exfalso
   obtain⟨k,hkV,hlt,_⟩:=qgX hh h0 hr.symm
   obtain⟨a1,a2,a3⟩:=qcT l (m,false) h0
   rw[hr]at a2
   have a2':qJ m'=y6 (yS l) (qJ m):=a2
   have h1:=qcY hF hle k
   rw[<-a2']at h1
   have:k∈V.filter fun k=>decide (qJ m k≠F k):=List.mem_filter.2 ⟨hkV,by simp only[decide_eq_true_eq];omega⟩
   rw[List.length_eq_zero_iff.1 (Nat.le_zero.1 hn)]at this
   cases this
 |succ n ih=>
  intro m hk h0 hle hn
  obtain⟨⟨m',b⟩,hr⟩:∃t,l.foldl ul (m,false)=t:=⟨_,rfl⟩
  rw[qbG,hr]
  cases b with
  |false=>simp
  |true=>
   obtain⟨k,hkV,hlt,hle'⟩:=qgX hh h0 hr.symm
   obtain⟨a1,a2,a3⟩:=qcT l (m,false) h0
   rw[hr]at a1 a2 a3
   have hk':qB m'=V:=(a3 (by rw[hk];exact hh)).trans hk
   have a2':qJ m'=y6 (yS l) (qJ m):=a2
   have hleF:∀k,qJ m' k<=F k:=fun k=>by rw[a2'];exact qcY hF hle k
   have hne:qJ m k≠F k:=by have:=hleF k;omega
   obtain⟨u,hu,h1,h2⟩:=qsN hF hmin hE' hle hkV hne
   have hcnt:=qvg (V:=V) (p:=fun k=>decide (qJ m k≠F k)) (q:=fun k=>decide (qJ m' k≠F k)) (fun k _ hk=>by
    have h3:=hle' k
    have h4:=hleF k
    simp only[decide_eq_true_eq]at hk ⊢
    omega) hu (by simpa using h1) (by rw[a2'];simpa using h2)
   have hno:m'.any (fun e=>decide ((m'.length:Int)<e.2))=false:=by
    rw[List.any_eq_false]
    intro e he
    have hv:=qgl (by rw[hk'];exact hN) e he
    have hkey:e.1∈V:=by rw[<-hk'];exact List.mem_map_of_mem he
    have hb:=qgB hF hmin hE' (fun e he=>(hE e he).2.2) hkey
    have hf:=hleF e.1
    have hlen:m'.length=V.length:=by rw[<-hk',wR]
    unfold qJ at hf
    rw[hv]at hf
    simp only[decide_eq_true_eq]
    omega
   dsimp only
   rw[hno]
   exact ih m' hk' a1.nn hleF (by omega)
theorem qlO{l:List qe}{V:List PK}(hh:∀c∈l,ofA c.head∈V):∀(n:Nat)(m R:List (PK×Int)),qB m=V->NN0 m->(∀g,yH (yS l) g->∀k,qJ m k<=g k)->qbG l n m=some R->qcc l V R
 |0,_,_,_,_,_,h=>by cases h
 |n+1,m,R,hk,h0,hle,h=>by
  obtain⟨⟨m',b⟩,hr⟩:∃t,l.foldl ul (m,false)=t:=⟨_,rfl⟩
  simp only[qbG,hr]at h
  cases b with
  |false=>
   cases h
   obtain⟨rfl,hs⟩:=qio h0 hr.symm
   exact⟨hk,h0,hs,hle⟩
  |true=>
   simp only at h
   split at h
   ·cases h
   ·obtain⟨a1,a2,a3⟩:=qcT l (m,false) h0
    rw[hr]at a1 a2 a3
    have hk':qB m'=V:=(a3 (by rw[hk];exact hh)).trans hk
    have a2':qJ m'=y6 (yS l) (qJ m):=a2
    exact qlO hh n m' R hk' a1.nn (fun g hg k=>by rw[a2'];exact qcY hg (hle g hg) k) h
theorem qso{l:List qe}{V:List PK}(hV:∀c∈l,∀k∈vp c,k∈V)(hN:V.Nodup)(m:List (PK×Int))(hk:qB m=V)(h0:∀k,qp m k=0)(n:Nat)(hn:V.length<=n):qfH l V (qbG l (n+1) m):=by
 have hnn:NN0 m:=fun k=>by rw[h0 k];omega
 have hz:∀k,qJ m k=0:=fun k=>by unfold qJ;rw[h0 k];rfl
 cases hr:qbG l (n+1) m with
 |none=>
  rintro⟨g,hg⟩
  obtain⟨F,hF,hmin⟩:=qiz V hg
  exact qsn hV hF hmin hN n m hk hnn (fun k=>by rw[hz k];omega) (Nat.le_trans (List.length_filter_le _ _) hn) hr
 |some R=>exact qlO (fun c hc=>hV c hc _ List.mem_cons_self) _ m R hk hnn (fun g _ k=>by rw[hz k];omega) hr
theorem qsd{l:List qe}{V W:List PK}{R S:Option (List (PK×Int))}(h1:qfH l V R)(h2:qfH l W S):(R=none/\S=none)\/∃m q,R=some m/\S=some q/\qcc l V m/\qcc l W q/\∀k,qp m k=qp q k:=by
 cases R with
 |none=>
  cases S with
  |none=>exact .inl ⟨rfl,rfl⟩
  |some q=>exact absurd ⟨_,(show qcc l W q from h2).sol⟩ h1
 |some m=>
  cases S with
  |none=>exact absurd ⟨_,(show qcc l V m from h1).sol⟩ h2
  |some q=>
   have a:qcc l V m:=h1
   have b:qcc l W q:=h2
   refine .inr ⟨m,q,rfl,rfl,a,b,fun k=>?_⟩
   have c1:=a.le _ b.sol k
   have c2:=b.le _ a.sol k
   have c3:=a.nn k
   have c4:=b.nn k
   unfold qJ at c1 c2
   omega
end Go.Abs.Tz
namespace Go.Abs.Tz
open Go Go.Abs Go.Proofs
set_option maxRecDepth 20000
set_option linter.unusedSimpArgs false
attribute [local simp ↓] gF gD uZ uY gd zX qW zk uX zU yq yr gG gI gJ gH jd jg jj je jk jl jh ji jf jb u9 jc ja yo ym yp yn gA gy gC gz gM gK gL ue zz jm qS jn gg yt yu gQ gT gS gN gO g8 jp jw jz jv jx jy j5 j3 jF jH uH uE uS uV uF uN uR uQ uP uO uL uA uB uC uD uT uJ uK uy uU uW uG uI uM uz jL jG jY j8 jI jT jX jW jV jU jR jD j0 jP jQ jA j7 j9 jJ jN jS jB gb j6 jC ga jO jK jM jE jZ jq ju jr gY g7 gW gZ g6 qm uo
attribute [local simp] faL fdL iaL ixL za q9 qN eqK eqL qL ze ut gV yk g9 yb yd yf yh yj ya ye yc yg zr LV.cells LV.whole qm uf zK jo stL zw zF zV qa.alloc ge gc gf gw gv gu gt gq gp gk gj gi gh qd ug
def qaz(x:qX):PK:=(x.pred,x.args)
def qgw(x:qX)(k:PK):Bool:=eqBA x.pred k.1&&decide (x.args=k.2)
def qdW:List qX->PK->Nat->Int
 |[],_,_=>-1
 |x::r,k,i=>if qgw x k then (i:Int) else qdW r k (i+1)
def qdN(x:Lit):List Atom:=if x.kind<=2 then [x.atom] else []
def qef(c:qe):List Atom:=c.head::c.body.flatMap qdN
def qbZ(l:List qe):List Atom:=l.flatMap qef
theorem qpy(G:List Atom):(G.map qh).all (fun e=>e.cells.length==2)=true:=by simp[LV.cells]
def vA(H:qa)(sz len:Nat)(own:Own)(ob:List (Nat×qc))(n:Nat):Prop:=(own=.full/\ob=H.objs/\H.next<=n)\/∃t,own=.tok t/\H.next<=t/\t<n/\ob=(t,.tok len sz)::H.objs
structure NNAs where
 i:Nat
 n:Nat
 aa:List Atom
 own:Own
 ob:List (Nat×qc)
end Go.Abs.Tz
namespace Go.Abs.Tz
open Go Go.Abs Go.Proofs
theorem qwJ(n:Nat)(t:Term):Bel n (zl t):=.agg fun i c h=>by
 match i with
 |0=>simp at h;subst h;exact .sc _
 |1=>simp at h;subst h;exact .sc _
 |2=>simp at h;subst h;exact .sc _
 |i+3=>simp at h
theorem qwK(n:Nat)(E:qv):∀(i:Nat)(kv:LV×LV),(qI E)[i]? = some kv->Bel n kv.1/\Bel n kv.2:=by
 intro i kv h
 simp only[qI,List.getElem?_map]at h
 obtain⟨e,_,rfl⟩:=Option.map_eq_some_iff.1 h
 exact⟨.sc _,qwJ _ _⟩
theorem qrG(p a:Atom)(hp:p.ok)(ha:a.ok)(H:qa)(o:Nat)(K:qv)(hl:look o H.objs=some (.um (qI K)))(hno:∀i m l k n,look i H.objs=some (.iter m l k n)->m≠o)(hKn:(uq K).Nodup)
  {kv kp:HP} (hk1:vy K p a=none->kv (.sc (.map none)) H) (hk2:∀R,vy K p a=some R->kv (.map (H.next+2)) ⟨(H.next+2,.um (qI R))::H.objs,H.next+3⟩):
  cP E0 F0 159 [qh p,qh a,.map o] H kv kp:=by
 have h0:=qrF p a hp ha H o K hl hno hKn
 have putback:∀(K':qv)(G:qb)(w:World)(ob:List (Nat×qc))(n:Nat),K'.Perm K->look o ob=some (.map (qI K'))->Inv G w ⟨ob,n⟩->Inv G w ⟨qx o (.um (qI K)) ob,n⟩:=by
  intro K' G w ob n hp hlo hI
  have:=hI.toUm (es':=qI K) hlo (hp.map _)
  exact this
 have hback:∀K':qv,qx o (.um (qI K)) (qx o (.map (qI K')) H.objs)=H.objs:=by
  intro K'
  rw[qbp,qeH hl]
 cases hb:vy K p a with
 |none=>
  intro hH
  have h1:Out E0 F0 (.call 159 [qh p,qh a,.map o] H) (fun r=>∃K':qv,K'.Perm K/\∃n,r=.ret (.sc (.map none)) ⟨qx o (.map (qI K')) H.objs,n⟩):=by
   refine .mono (h0 hH) fun r hr=>?_
   rcases hr with⟨u,H',rfl,_,K',hK,⟨_,rfl,n,rfl⟩|⟨R,R',hR,_⟩⟩|⟨u,H',rfl,_,hf⟩
   ·exact⟨K',hK,n,rfl⟩
   ·rw[hb]at hR;cases hR
   ·exact hf.elim
  have h2:qV Tryz.prog E0 159 [qh p,qh a,.map o] H (fun r=>∃n,r=.ret (.sc (.map none)) ⟨H.objs,n⟩):=by
   refine(qbi qdf qbR h1:qV _ _ _ _ _ _).inv (fun v H' G' w' hT hI=>?_) (fun v H' hT=>?_)
   ·obtain⟨K',hK,n,hn⟩:=hT
    cases hn
    have:=putback K' G' w' _ n hK (vL hl) hI
    rw[hback]at this
    exact⟨_,this,n,rfl⟩
   ·obtain⟨K',hK,n,hn⟩:=hT
    cases hn
  exact .prim (h2.low (.sc _) (.inl ⟨_,H,rfl,hH,hk1 hb⟩))
 |some R=>
  intro hH
  have hon:o<H.next:=hH.look hl
  have h1:Out E0 F0 (.call 159 [qh p,qh a,.map o] H) (fun r=>∃K' R':qv,K'.Perm K/\R'.Perm R/\∃n,r=.ret (.map (H.next+2)) ⟨(H.next+2,.map (qI R'))::qx o (.map (qI K')) H.objs,n⟩):=by
   refine .mono (h0 hH) fun r hr=>?_
   rcases hr with⟨u,H',rfl,_,K',hK,⟨hn,_⟩|⟨R1,R',hR,hRp,rfl,n,rfl⟩⟩|⟨u,H',rfl,_,hf⟩
   ·rw[hb]at hn;cases hn
   ·rw[hb]at hR;cases hR
    exact⟨K',R',hK,hRp,n,rfl⟩
   ·exact hf.elim
  have h2:qV Tryz.prog E0 159 [qh p,qh a,.map o] H (fun r=>∃n,r=.ret (.map (H.next+2)) ⟨(H.next+2,.um (qI R))::H.objs,n⟩):=by
   refine(qbi qdf qbR h1:qV _ _ _ _ _ _).inv (fun v H' G' w' hT hI=>?_) (fun v H' hT=>?_)
   ·obtain⟨K',R',hK,hR,n,hn⟩:=hT
    cases hn
    have h3:=putback K' G' w' _ n hK (by rw[qd (by omega)];exact vL hl) hI
    rw[ug (by omega),hback]at h3
    have h4:=h3.toUm (o:=H.next+2) (es':=qI R) (qm _ _ _) (hR.map _)
    rw[uf]at h4
    exact⟨_,h4,n,rfl⟩
   ·obtain⟨K',R',hK,hR,n,hn⟩:=hT
    cases hn
  refine .prim (h2.low2 (n0:=H.next+3) (by omega) (.map (by omega)) (fun i x hx=>?_) (.inl ⟨_,_,rfl,⟨Nat.lt_succ_self _,qt.mono hH (by omega)⟩,hk2 R hb⟩))
  simp only[look]at hx
  split at hx
  ·rename_i hi
   subst hi
   simp only[Option.some.injEq]at hx
   subst hx
   exact .inr ⟨by omega,qwK _ _⟩
  ·exact .inl hx
end Go.Abs.Tz
namespace Go.Abs.Tz
open Go Go.Abs Go.Proofs
set_option maxRecDepth 20000
set_option linter.unusedSimpArgs false
attribute [local simp ↓] gF gD uZ uY gd zX qW zk uX zU yq yr gG gI gJ gH jd jg jj je jk jl jh ji jf jb u9 jc ja yo ym yp yn gA gy gC gz gM gK gL ue zz jm qS jn gg yt yu gQ gT gS gN gO g8 jp jw jz jv jx jy j5 j3 jF jH uH uE uS uV uF uN uR uQ uP uO uL uA uB uC uD uT uJ uK uy uU uW uG uI uM uz jL jG jY j8 jI jT jX jW jV jU jR jD j0 jP jQ jA j7 j9 jJ jN jS jB gb j6 jC ga jO jK jM jE jZ jq ju jr gY g7 gW gZ g6 qm uo
attribute [local simp] faL fdL iaL ixL za q9 qN eqK eqL qL ze ut gV yk g9 yb yd yf yh yj ya ye yc yg zr LV.cells LV.whole qm uf zK jo stL zw zF zV qa.alloc ge gc gf gw gv gu gt gq gp gk gj gi gh qd ug
def l42:qk:=match b95.body with
 |.seq _ (.seq _ (.seq _ (.seq _ (.seq l _))))=>l
 |_=>.bad
def r42:qk:=match b95.body with
 |.seq _ (.seq _ (.seq _ (.seq _ (.seq _ r))))=>r
 |_=>.bad
def mx(a b:Int):Int:=if b > a then b else a
def gx(t:Int)(l:List Int):Int:=l.foldl mx t
theorem qtC(t a b:Int):mx (mx t a) b=mx (mx t b) a:=by
 unfold mx
 repeat' split
 all_goals omega
theorem qtO{l m:List Int}(h:l.Perm m):∀t,gx t l=gx t m:=by
 induction h with
 |nil=>intro t;rfl
 |cons x _ ih=>intro t;exact ih (mx t x)
 |swap x y l=>
  intro t
  show gx (mx (mx t y) x) l=gx (mx (mx t x) y) l
  rw[qtC]
 |trans _ _ ih1 ih2=>intro t;rw[ih1,ih2]
structure NNM where
 left:List Nat
 cur:Option Nat
 top:Int
theorem qtN(v0 v7:LV)(o:Nat)(ms:List (LV×Int))(top:Int)(H:qa)(hl:look o H.objs=some (.map (ms.map fun e=>(e.1,.int e.2)))):
  lP E0 F0 l42 (FT.nd (v0) (FT.nd .bot (FT.nd .bot (FT.nd (v7) .nil .nil) .nil) (FT.nd .bot (FT.nd (.int top) .nil .nil) .nil)) (FT.nd .bot .nil (FT.nd (.map o) .nil .nil))) H (fun e t' H'=>e=.normal/\FT.Le (FT.nd (v0) (FT.nd .bot (FT.nd .bot (FT.nd (v7) .nil .nil) .nil) (FT.nd .bot (FT.nd (.int (gx top (ms.map (·.2)))) .nil .nil) .nil)) (FT.nd .bot .nil (FT.nd (.map o) .nil .nil))) t'/\HWk H' ⟨H.objs,H.next+1⟩/\(H'.Ok->qa.Ok ⟨H.objs,H.next+1⟩)):=by
 refine zD ?_
 obtain⟨ob,N⟩:=H
 dsimp only at hl ⊢
 obtain⟨M,hM⟩:∃M,gx top (ms.map (·.2))=M:=⟨_,rfl⟩
 rw[hM]
 simp(disch:=omega)[l42,b95,rgL,hl]
 refine qE (σ:=NNM) (fun q=>(FT.nd (v0) (FT.nd .bot (FT.nd .bot (FT.nd (v7) .nil .nil) .nil) (FT.nd .bot (FT.nd (.int q.top) .nil .nil) .nil)) (FT.nd .bot .nil (FT.nd (.map o) .nil (FT.nd .bot .nil (FT.nd (.ptr N 0) .nil .nil))))))
  (fun q=>⟨(N,.iter o q.left q.cur ms.length)::ob,N+1⟩) (fun q=>q.left.length)
  (fun q=>gx q.top (q.left.filterMap (fun k=>(ms.map (·.2))[k]?))=M) ⟨List.range ms.length,none,top⟩ ?_ (by simp[FT.Le,Wk]) ⟨HWk.refl _,fun h=>h⟩ ?_
 ·dsimp only
  rw[<-hM]
  congr 1
  have:=qlS (ms.map (·.2))
  rwa [List.length_map]at this
 rintro⟨left,cur,tp⟩ hT hok
 dsimp only at hT hok
 have hlt:o<N:=by
  have h2:qa.Ok ⟨ob,N⟩:=hok.2
  exact h2.look hl
 simp(disch:=omega)
 by_cases hl0:left=[]
 ·refine⟨N,o,left,cur,ms.length,rfl,by simp[qm],.inl ⟨hl0,.inr ⟨_,by rw[qd (by omega)];exact hl,by simp⟩,?_⟩⟩
  subst hl0
  simp only[List.filterMap_nil]at hT
  have hT':tp=M:=hT
  simp(disch:=omega)[hT']
  have hB:qa.Ok ⟨ob,N⟩:=hok.2
  exact⟨by simp[FT.Le,Wk],uw hB⟩
 ·refine⟨N,o,left,cur,ms.length,rfl,by simp[qm],.inr ⟨hl0,_,by rw[qd (by omega)];exact hl,by simp,fun j k e hj hk=>?_⟩⟩
  obtain⟨v,hv,rfl⟩:∃v,ms[k]? = some v/\e=(v.1,.int v.2):=by
   simp only[List.getElem?_map]at hk
   obtain⟨v,h1,h2⟩:=Option.map_eq_some_iff.1 hk
   exact⟨v,h1,h2.symm⟩
  have hjl:j<left.length:=(List.getElem?_eq_some_iff.1 hj).1
  have hfe:(left.filterMap (fun k=>(ms.map (·.2))[k]?)).Perm (v.2::(left.eraseIdx j).filterMap (fun k=>(ms.map (·.2))[k]?)):=by
   have:=(qif left j k hj).filterMap (fun k=>(ms.map (·.2))[k]?)
   rwa [List.filterMap_cons_some (by rw[List.getElem?_map,hv];rfl)]at this
  rw[qtO hfe]at hT
  have hT':gx (mx tp v.2) ((left.eraseIdx j).filterMap (fun k=>(ms.map (·.2))[k]?))=M:=hT
  simp(disch:=omega)[enL,hl,hv]
  refine⟨⟨left.eraseIdx j,some k,mx tp v.2⟩,by dsimp only;rw[List.length_eraseIdx_of_lt hjl];omega,by simpa using hT',?_,HWk.refl _,fun h=>h⟩
  simp[FT.Le,Wk,mx]
end Go.Abs.Tz
