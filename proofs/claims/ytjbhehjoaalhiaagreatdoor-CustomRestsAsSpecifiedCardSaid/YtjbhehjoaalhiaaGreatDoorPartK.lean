/- Part of the proof that the law CustomRestsAsSpecified holds. Conditions: none. -/
import Derived.Test.YtjbhehjoaalhiaaGreatDoorPartJ
import Derived.Test.YtjbhehjoaalhiaaGreatDoorPartG
import Derived.Test.YtjbhehjoaalhiaaGreatDoorPartH
set_option linter.unusedVariables false
set_option linter.unusedSimpArgs false
set_option linter.unusedSectionVars false
namespace Go.Abs.Tz
open Go Go.Abs Go.Proofs
def qhL(F:List Stp):List Atom->qq->List Int->qq->Prop
 |[],K,js,R=>js=[]/\R=K
 |p::ps,K,js,R=>∃(j:Nat)(s:Stp)(K':qq)(js':List Int),F[j]? = some s/\z1 K p s.atom=some K'/\js=(j:Int)::js'/\qhL F ps K' js' R
def qby(S:Atom->Prop):List Atom->qq->qq->Prop
 |[],K,R=>R=K
 |p::ps,K,R=>∃(a:Atom)(K':qq),S a/\z1 K p a=some K'/\qby S ps K' R
def qaD(F:List Stp)(a:Atom):Prop:=∃s∈F,s.atom=a
theorem qjX{F:List Stp}:∀{ps:List Atom}{K:qq}{js:List Int}{R:qq},qhL F ps K js R->qby (qaD F) ps K R
 |[],_,_,_,h=>h.2
 |_::_,_,_,_,⟨_,s,K',_,h1,h2,_,h4⟩=>⟨s.atom,K',⟨s,List.mem_iff_getElem?.2 ⟨_,h1⟩,rfl⟩,h2,qjX h4⟩
theorem qnm{F:List Stp}:∀{ps:List Atom}{K:qq}{R:qq},qby (qaD F) ps K R->∃js,qhL F ps K js R
 |[],_,_,h=>⟨[],rfl,h⟩
 |_::_,_,_,⟨a,K',⟨s,hs,e⟩,h2,h3⟩=>by
  obtain⟨js,hjs⟩:=qnm h3
  obtain⟨j,hj⟩:=List.mem_iff_getElem?.1 hs
  exact⟨(j:Int)::js,j,s,K',js,hj,by rw[e];exact h2,rfl,hjs⟩
theorem qby.mono{S T:Atom->Prop}(h:∀a,S a->T a):∀{ps:List Atom}{K R:qq},qby S ps K R->qby T ps K R
 |[],_,_,hc=>hc
 |_::_,_,_,⟨a,K',h1,h2,h3⟩=>⟨a,K',h a h1,h2,qby.mono h h3⟩
theorem qhw{S:Atom->Prop}(hS:∀a,S a->qI a):∀{ps:List Atom}{K R:qq},uA K->qby S ps K R->uA R/\qal K R/\(∀p∈ps,yY R p.args)/\∀p∈ps,S (q9 R p)
 |[],K,R,hK,h=>by
  have e:R=K:=h
  subst e
  exact⟨hK,.refl _,fun p hp=>(by cases hp),fun p hp=>(by cases hp)⟩
 |p::ps,K,R,hK,⟨a,K',h1,h2,h3⟩=>by
  obtain⟨g1,g2,g3,g4⟩:=qhB hK (hS a h1) h2
  obtain⟨f1,f2,f3,f4⟩:=qhw hS g1 h3
  refine⟨f1,g2.trans f2,fun q hq=>?_,fun q hq=>?_⟩
  ·rcases List.mem_cons.1 hq with rfl|hq
   ·exact g3.ext f2
   ·exact f3 q hq
  ·rcases List.mem_cons.1 hq with rfl|hq
   ·rw[qwt f2 g3,g4];exact h1
   ·exact f4 q hq
def qcq(S:Atom->Prop)(K:qq)(b:List Lit):Prop:=∀x∈b,(x.kind=2->¬S (q9 K x.atom))/\(x.kind≠1->x.kind≠2->qaV K x=true)
def wH(S:Atom->Prop)(c:qf)(h:Atom):Prop:=∃R,qby S (qO c.body) [] R/\qcq S R c.body/\h=q9 R c.head
theorem wH.good{S:Atom->Prop}(hS:∀a,S a->qI a){c:qf}(hc:zQ c){h:Atom}(hh:wH S c h):qI h:=by
 obtain⟨R,h1,_,rfl⟩:=hh
 obtain⟨g1,_,g3,_⟩:=qhw hS .nil h1
 exact(hc.leaf g1 g3).2
theorem qoi{F:List Stp}(hF:∀s∈F,qM s.atom=true){a:Atom}(ha:qM a=true):zn (qG a) F=true↔qaD F a:=by
 rw[qac]
 constructor
 ·rintro⟨q,hq,e⟩
  exact⟨q,hq,qkm (hF q hq) ha e⟩
 ·rintro⟨q,hq,e⟩
  exact⟨q,hq,by rw[e]⟩
theorem qmH{F:List Stp}(hF:∀s∈F,qM s.atom=true){K:qq}:∀{b:List Lit},(∀x∈b,x.kind=2->qM (q9 K x.atom)=true)->(qap F K b=true↔qcq (qaD F) K b)
 |[],_=>⟨fun _ x hx=>(by cases hx),fun _=>rfl⟩
 |x::r,hb=>by
  have ih:=qmH hF (K:=K) (b:=r) fun y hy=>hb y (List.mem_cons_of_mem _ hy)
  have split:qcq (qaD F) K (x::r)↔((x.kind=2->¬qaD F (q9 K x.atom))/\(x.kind≠1->x.kind≠2->qaV K x=true))/\qcq (qaD F) K r:=by
   constructor
   ·intro h
    exact⟨h x List.mem_cons_self,fun y hy=>h y (List.mem_cons_of_mem _ hy)⟩
   ·rintro⟨h1,h2⟩ y hy
    rcases List.mem_cons.1 hy with rfl|hy
    ·exact h1
    ·exact h2 y hy
  rw[split]
  unfold qap
  by_cases h1:x.kind=1
  ·rw[if_pos h1,ih]
   exact⟨fun h=>⟨⟨fun h2=>by omega,fun h3=>absurd h1 h3⟩,h⟩,fun h=>h.2⟩
  ·rw[if_neg h1]
   by_cases h2:x.kind=2
   ·rw[if_pos h2,Bool.and_eq_true,ih]
    have e:(!zn (qG (q9 K x.atom)) F)=true↔¬qaD F (q9 K x.atom):=by
     rw[<-qoi hF (hb x List.mem_cons_self h2)]
     simp
    rw[e]
    exact⟨fun h=>⟨⟨fun _=>h.1,fun _ h3=>absurd h2 h3⟩,h.2⟩,fun h=>⟨h.1.1 h2,h.2⟩⟩
   ·rw[if_neg h2,Bool.and_eq_true,ih]
    exact⟨fun h=>⟨⟨fun h3=>absurd h3 h2,fun _ _=>h.1⟩,h.2⟩,fun h=>⟨h.1.2 h1 h2,h.2⟩⟩
theorem qfh{F:List Stp}{c:qf}:∀{ps:List Atom}{K:qq}{frm:List Int}{x:qq×List Int},x∈vU F c ps K frm↔∃js,qhL F ps K js x.1/\qap F x.1 c.body=true/\x.2=frm++js
 |[],K,frm,x=>by
  unfold vU
  constructor
  ·intro h
   split at h
   ·rename_i hr
    simp at h
    subst h
    exact⟨[],⟨rfl,rfl⟩,hr,by simp⟩
   ·cases h
  ·rintro⟨js,⟨rfl,h2⟩,h3,h4⟩
   rw[<-h2,if_pos h3]
   obtain⟨x1,x2⟩:=x
   simp at h4
   subst h4
   simp
 |p::ps,K,frm,x=>by
  unfold vU
  rw[List.mem_flatMap]
  constructor
  ·rintro⟨j,hj,h⟩
   split at h
   ·rename_i s hs
    split at h
    ·rename_i R hR
     obtain⟨js,h1,h2,h3⟩:=qfh.1 h
     exact⟨(j:Int)::js,⟨j,s,R,js,hs,hR,rfl,h1⟩,h2,by rw[h3];simp⟩
    ·cases h
   ·cases h
  ·rintro⟨js,⟨j,s,K',js',h1,h2,h3,h4⟩,h5,h6⟩
   refine⟨j,List.mem_range.2 (List.getElem?_eq_some_iff.1 h1).1,?_⟩
   rw[h1]
   simp only[h2]
   exact qfh.2 ⟨js',h4,h5,by rw[h6,h3];simp⟩
def qha(F:List Stp)(c:qf)(ci:Int):List Stp:=(vU F c (qO c.body) [] []).map fun x=>⟨q9 x.1 c.head,ci,x.2⟩
theorem qjE(F:List Stp)(c:qf)(ci:Int)(l:List (qq×List Int))(G:List Stp):vW (fun G a frm=>zM F G ⟨a,ci,frm⟩) c l G=(l.map fun x=>(⟨q9 x.1 c.head,ci,x.2⟩:Stp)).foldl (zM F) G:=by
 unfold vW
 rw[List.foldl_map]
theorem qot(F G:List Stp)(s:Stp):zM F G s=G\/(zM F G s=G++[s]/\zn (qG s.atom) F=false/\zn (qG s.atom) G=false):=by
 unfold zM zq
 cases h1:zn (qG s.atom) F
 ·rw[if_neg (by simp)]
  by_cases h2:G.length<=300
  ·rw[if_pos h2]
   cases h3:zn (qG s.atom) G
   ·rw[if_neg (by simp)];exact .inr ⟨rfl,rfl,rfl⟩
   ·exact .inl (if_pos rfl)
  ·rw[if_neg h2];exact .inl rfl
 ·exact .inl (if_pos rfl)
theorem qwd{F G:List Stp}{s:Stp}(h:(zM F G s).length<=300):zn (qG s.atom) F=true\/zn (qG s.atom) (zM F G s)=true:=by
 cases h1:zn (qG s.atom) F
 ·right
  have hG:G.length<=300:=by have:=(qos F G s).1;omega
  unfold zM zq
  rw[h1,if_neg (by simp),if_pos hG]
  cases h3:zn (qG s.atom) G
  ·rw[if_neg (by simp)]
   exact qac.2 ⟨s,by simp,rfl⟩
  ·rw[if_pos rfl];exact h3
 ·exact .inl rfl
theorem qvS{k:ByteArray}{G X:List Stp}(h:zn k G=true):zn k (G++X)=true:=by
 obtain⟨q,hq,e⟩:=qac.1 h
 exact qac.2 ⟨q,List.mem_append_left _ hq,e⟩
theorem qfz(F:List Stp):∀(l G:List Stp),∃X,l.foldl (zM F) G=G++X/\∀q∈X,q∈l
 |[],G=>⟨[],by simp,fun q hq=>by cases hq⟩
 |s::l,G=>by
  obtain⟨X,hX,hX2⟩:=qfz F l (zM F G s)
  rw[List.foldl_cons,hX]
  rcases qot F G s with e|⟨e,_⟩
  ·exact⟨X,by rw[e],fun q hq=>List.mem_cons_of_mem _ (hX2 q hq)⟩
  ·refine⟨s::X,by rw[e];simp,fun q hq=>?_⟩
   rcases List.mem_cons.1 hq with rfl|hq
   ·exact List.mem_cons_self
   ·exact List.mem_cons_of_mem _ (hX2 q hq)
theorem qop(F:List Stp):∀(l G:List Stp),(l.foldl (zM F) G).length<=300->∀s∈l,zn (qG s.atom) F=true\/zn (qG s.atom) (l.foldl (zM F) G)=true
 |[],G,_,s,hs=>by cases hs
 |q::l,G,h,s,hs=>by
  rw[List.foldl_cons]at h ⊢
  rcases List.mem_cons.1 hs with rfl|hs
  ·obtain⟨X,hX,_⟩:=qfz F l (zM F G s)
   rw[hX]at h ⊢
   rw[List.length_append]at h
   rcases qwd (F:=F) (G:=G) (s:=s) (by omega) with h1|h1
   ·exact .inl h1
   ·exact .inr (qvS h1)
  ·exact qop F l _ h s hs
theorem qoo(F:List Stp):∀(l G:List Stp),G.length<=301->(l.foldl (zM F) G).length<=301
 |[],_,h=>h
 |s::l,G,h=>qoo F l _ (qor h)
def qbU(F G:List Stp):Prop:=(G.map fun q=>qG q.atom).Nodup/\∀q∈G,zn (qG q.atom) F=false
theorem qbU.nil(F:List Stp):qbU F []:=⟨.nil,fun q hq=>by cases hq⟩
theorem qwe{F G:List Stp}{s:Stp}(h:qbU F G):qbU F (zM F G s):=by
 rcases qot F G s with e|⟨e,h1,h2⟩
 ·rw[e];exact h
 ·rw[e]
  refine⟨?_,fun q hq=>?_⟩
  ·rw[List.map_append]
   refine List.nodup_append.2 ⟨h.1,by simp,fun x hx y hy hxy=>?_⟩
   simp at hy
   subst hy
   obtain⟨q,hq,e⟩:=List.mem_map.1 hx
   have:zn (qG s.atom) G=true:=qac.2 ⟨q,hq,by rw[e,hxy]⟩
   rw[h2]at this
   cases this
  ·rcases List.mem_append.1 hq with hq|hq
   ·exact h.2 q hq
   ·simp at hq
    subst hq
    exact h1
theorem qoq(F:List Stp):∀(l G:List Stp),qbU F G->qbU F (l.foldl (zM F) G)
 |[],_,h=>h
 |_::l,_,h=>qoq F l _ (qwe h)
theorem qqz:∀{G F:List Stp},qbU F G->G.foldl zq F=F++G
 |[],F,_=>by simp
 |s::G,F,h=>by
  obtain⟨h1,h2⟩:=h
  have e:zq F s=F++[s]:=by unfold zq;rw[h2 s List.mem_cons_self,if_neg (by simp)]
  rw[List.map_cons,List.nodup_cons]at h1
  rw[List.foldl_cons,e,qqz ⟨h1.2,fun q hq=>?_⟩]
  ·simp
  ·cases hh:zn (qG q.atom) (F++[s])
   ·rfl
   ·obtain⟨r,hr,er⟩:=qac.1 hh
    rcases List.mem_append.1 hr with hr|hr
    ·have:zn (qG q.atom) F=true:=qac.2 ⟨r,hr,er⟩
     rw[h2 q (List.mem_cons_of_mem _ hq)]at this
     cases this
    ·simp at hr
     subst hr
     exact absurd (List.mem_map.2 ⟨q,hq,er.symm⟩) h1.1
end Go.Abs.Tz
namespace Go.Abs.Tz
open Go Go.Abs Go.Proofs
set_option maxRecDepth 20000
set_option linter.unusedSimpArgs false
attribute [local simp ↓] yb ya jv ju gI ut zg zB jr up yP yQ yc ye yf yd jA jD jG jB jH jI jE jF jC jy jw jz jx yN yL yO yM g7 gZ g8 g6 yk yh yj uu zx jL zh z7 gL yS yT yo yq yp ym yn yz jO jT jW jS jU jV gy gx j5 j7 jb uZ jm jp u9 jh jl jk jj ji jf uV uW uX uY jn jd je uT jo jq ja jc jg uU gb j6 gu gC j8 gj gt gq gp gk gh j0 gw gf gg jX gA gD j9 gd gi jY gG gz jZ gF ge ga gc j3 gv jP jR jQ yu yx yt yv yw qp uL
attribute [local simp] faL fdL iaL ixL qL zb qV eqK eqL qR zo uO yr yK yA yC yE yG yI yJ yB yF yD yH zC LV.cells LV.whole qp uC uw jM stL zF zR uq qa.alloc gJ gH gK gY gW gV gU gT gS gQ gO gN gM qe ux
theorem qtU{K:qq}(hK:uA K){p:Term}:(uE K p).kind=3↔(p.kind=3/\qS p.s K=none):=by
 unfold uE
 by_cases h:p.kind=3
 ·rw[if_pos h]
  cases hf:qS p.s K with
  |none=>simp[h]
  |some v=>
   have:=(hK.find hf).2
   simp only[Option.getD_some]
   constructor
   ·intro e;simp[ua,e]at this
   ·rintro⟨_,e⟩;cases e
 ·rw[if_neg h]
  exact⟨fun e=>absurd e h,fun e=>e.1⟩
theorem qxQ{K:qq}(hK:uA K)(p q:Term)(ps qs:List Term):zA K (p::ps) (q::qs)=if (uE K p).kind=3 then zA (K++[((uE K p).s,q)]) ps qs else if eqT (uE K p) q then zA K ps qs else none:=by
 by_cases h3:p.kind=3
 ·cases hf:qS p.s K with
  |none=>
   have e:uE K p=p:=by unfold uE;rw[if_pos h3,hf];rfl
   rw[e,if_pos h3]
   simp only[zA]
   rw[if_pos h3,hf]
  |some v=>
   have e:uE K p=v:=by unfold uE;rw[if_pos h3,hf];rfl
   have hv:¬v.kind=3:=fun h=>by have:=(hK.find hf).2;simp[ua,h]at this
   rw[e,if_neg hv]
   simp only[zA]
   rw[if_pos h3,hf]
 ·have e:uE K p=p:=by unfold uE;rw[if_neg h3]
  rw[e,if_neg h3]
  simp only[zA]
  rw[if_neg h3]
theorem qvX{K:qq}(hK:uA K){p q:Term}(h3:(uE K p).kind=3)(hq:qF q=true/\ua q=true):uA (K++[((uE K p).s,q)]):=by
 obtain⟨h1,h2⟩:=(qtU hK).1 h3
 have e:uE K p=p:=by unfold uE;rw[if_pos h1,h2];rfl
 rw[e]
 refine⟨?_,fun x hx=>?_⟩
 ·unfold uj
  rw[List.map_append]
  refine List.nodup_append.2 ⟨hK.nd,by simp,fun x hx y hy e=>?_⟩
  simp at hy
  subst hy
  subst e
  exact qfB h2 hx
 ·rcases List.mem_append.1 hx with hx|hx
  ·exact hK.ok x hx
  ·simp at hx
   subst hx
   exact hq
theorem qyh{H:qa}{sz:Nat}{Y:List LV}{ow:Own}(hY:(Y.all fun e=>e.cells.length==sz)=true)(hl:Y.length<=2^30)(hs:sz<=2^10):apL H sz (.sl [] .full) (.sl Y ow)=some (.sl Y (.tok H.next),H.alloc (.tok Y.length sz)):=by
 unfold apL
 simp only
 rw[hY]
 simp only[List.all_nil,Bool.and_self,if_true,List.length_nil,Nat.zero_add,List.nil_append]
 rw[if_pos ⟨hl,hs,rfl⟩]
structure NNG2 where
 i:Nat
 n:Nat
 e:qq
theorem qrH(K:qq)(hK:uA K)(ow:Own)(p a:Atom)(hp:p.ok)(ha:qI a)(hKl:K.length<=2^20)(H:qa){kv kp:HP}
  (hk1:∀R,z1 K p a=some R->∀n,H.next<=n->kv (.tup [.sl (R.map wt) .no,.bool true]) ⟨H.objs,n⟩)
  (hk2:z1 K p a=none->∀n,H.next<=n->∀x,kv (.tup [x,.bool false]) ⟨H.objs,n⟩):
  cP E0 F0 186 [.sl (K.map wt) ow,qd p,qd a] H kv kp:=by
 refine qah c186 fun hH=>⟨Nat.le_of_ble_eq_true rfl,?_⟩
 have hal:=(qai ha.1).1
 have finW:∀{H':qa}{v v':LV},Wk v v'->ql H H'->kv v' ⟨H.objs,H'.next⟩->∃v',Wk v v'/\∃H'',HWk H' H''/\(H'.Ok->H''.Ok)/\kv v' H'':=fun{H' v v'} hw he h=>⟨v',hw,⟨H.objs,H'.next⟩,⟨Nat.le_refl _,he.2⟩,fun _=>qn.mono hH he.1,h⟩
 cases h1:eqBA p.pred a.pred
 ·have hm:z1 K p a=none:=by simp[z1,h1]
  simp(disch:=omega)[b186,h1]
  exact finW (.inl rfl) (by first|exact ql.refl' _|(repeat (first|exact ql.refl (by first|omega|(dsimp only;omega))|refine ql.cons' hH (by first|omega|(dsimp only;omega)) (by first|omega|(dsimp only;omega)) ?_))) (hk2 hm _ (by first|omega|(dsimp only;omega)) _)
 by_cases h2:p.args.length=a.args.length
 case neg=>
  have h2i:¬(p.args.length:Int)=(a.args.length:Int):=by omega
  have hm:z1 K p a=none:=by simp[z1,h1,h2]
  simp(disch:=omega)[b186,h1,h2i]
  exact finW (.inl rfl) (by first|exact ql.refl' _|(repeat (first|exact ql.refl (by first|omega|(dsimp only;omega))|refine ql.cons' hH (by first|omega|(dsimp only;omega)) (by first|omega|(dsimp only;omega)) ?_))) (hk2 hm _ (by first|omega|(dsimp only;omega)) _)
 have h2i:(p.args.length:Int)=(a.args.length:Int):=by omega
 obtain⟨A,hA⟩:∃A,z1 K p a=A:=⟨_,rfl⟩
 have hm:zA K p.args a.args=A:=by rw[<-hA];simp[z1,h1,h2]
 rw[hA]at hk1 hk2
 simp(disch:=omega)[b186,h1,h2i]
 refine qU ?_
 simp(disch:=omega)
 rw[qyh (qvY K) (by rw[List.length_map];omega) (by omega)]
 simp(disch:=omega)
 refine qy (σ:=NNG2) (fun q=>(.nd (.sl (K.map wt) ow) (.nd .bot .nil (.nd (.ptr (H.next+1) 0) (.nd (.int q.i) .nil .nil) .nil)) (.nd .bot (.nd (.ptr H.next 0) (.nd (.sl (q.e.map wt) (.tok (H.next+1+1))) .nil .nil) .nil) .nil)))
  (fun q=>⟨(H.next+1+1,.tok q.e.length 4)::(H.next+1,.cells [.str a.pred,qk a.args])::(H.next,.cells [.str p.pred,qk p.args])::H.objs,q.n⟩) (fun q=>a.args.length - q.i)
  (fun q=>H.next+3<=q.n/\q.i<=a.args.length/\q.e.length<=K.length+q.i/\uA q.e/\zA q.e (p.args.drop q.i) (a.args.drop q.i)=A) ⟨0,H.next+3,K⟩ ⟨by dsimp only;omega,Nat.zero_le _,by dsimp only;omega,hK,hm⟩ (by simp[FT.Le,Wk]) (by simp[HWk.refl]) ?_
 rintro⟨i,n,G⟩ ⟨hn,hi,hG,hGg,he⟩ hok
 simp only at hn hi hG hGg he
 have hHe:∀m:Nat,qa.Ok ⟨(H.next+1+1,.tok m 4)::(H.next+1,.cells [.str a.pred,qk a.args])::(H.next,.cells [.str p.pred,qk p.args])::H.objs,H.next+3⟩:=fun _=>⟨by first|omega|(dsimp only;omega),by omega,by omega,hH⟩
 by_cases hlt:i<a.args.length
 case neg=>
  rw[List.drop_eq_nil_of_le (by omega),List.drop_eq_nil_of_le (by omega)]at he
  simp only[zA]at he
  simp(disch:=omega)[hlt]
  exact finW (v':=.tup [.sl (G.map wt) .no,.bool true]) (.inr (.inl (by simp[LV.strip,stripL,qba,List.map_map,Function.comp_def]))) (by first|exact ql.refl' _|(repeat (first|exact ql.refl (by first|omega|(dsimp only;omega))|refine ql.cons' hH (by first|omega|(dsimp only;omega)) (by first|omega|(dsimp only;omega)) ?_))) (hk1 G he.symm _ (by first|omega|(dsimp only;omega)))
 have hly:i<p.args.length:=by omega
 rw[List.drop_eq_getElem_cons hlt,List.drop_eq_getElem_cons hly,qxQ hGg]at he
 have hqg:=ha.args _ (List.getElem_mem hlt)
 obtain⟨t,ht⟩:∃t,uE G p.args[i]=t:=⟨_,rfl⟩
 have hpush:=fun h3:(uE G p.args[i]).kind=3=>qvX hGg (p:=p.args[i]) (q:=a.args[i]) h3 hqg
 rw[ht]at he hpush
 simp(disch:=omega)[hlt,hly]
 refine(qlr G _ (by omega) _).go fun n1 hn1=>?_
 rw[ht]
 by_cases hk3:t.kind=3
 ·rw[if_pos hk3]at he
  simp(disch:=omega)[hlt,hly,hk3]
  refine qU ?_
  have hcan:G.length+1<=2^30:=by omega
  simp(disch:=omega)[apL,vd,hcan,qi (show i<2^62 by omega)]
  refine⟨⟨i+1,n1+1,G++[(t.s,a.args[i])]⟩,by dsimp only;omega,⟨by dsimp only;omega,by dsimp only;omega,by dsimp only;rw[List.length_append];simp only[List.length_singleton];omega,hpush hk3,he⟩,by simp[FT.Le,Wk],?_⟩
  have hlen:(G++[(t.s,a.args[i])]).length=G.length+1:=by simp
  dsimp only
  rw[hlen]
  exact zK (hHe _) (by first|exact ql.refl' _|(repeat (first|exact ql.refl (by first|omega|(dsimp only;omega))|refine ql.cons' (hHe _) (by first|omega|(dsimp only;omega)) (by first|omega|(dsimp only;omega)) ?_)))
 ·rw[if_neg hk3]at he
  cases hq:eqT t a.args[i]
  ·have hq':=hq
   simp only[eqT]at hq'
   simp[hq]at he
   simp(disch:=omega)[hlt,hly,hk3,hq']
   exact finW (.inl rfl) (by first|exact ql.refl' _|(repeat (first|exact ql.refl (by first|omega|(dsimp only;omega))|refine ql.cons' hH (by first|omega|(dsimp only;omega)) (by first|omega|(dsimp only;omega)) ?_))) (hk2 he.symm _ (by first|omega|(dsimp only;omega)) _)
  ·have hq':=hq
   simp only[eqT]at hq'
   simp[hq]at he
   simp(disch:=omega)[hlt,hly,hk3,hq',qi (show i<2^62 by omega)]
   exact⟨⟨i+1,n1+1,G⟩,by dsimp only;omega,⟨by dsimp only;omega,by dsimp only;omega,by dsimp only;omega,hGg,he⟩,by simp[FT.Le,Wk],zK (hHe _) (by first|exact ql.refl' _|(repeat (first|exact ql.refl (by first|omega|(dsimp only;omega))|refine ql.cons' (hHe _) (by first|omega|(dsimp only;omega)) (by first|omega|(dsimp only;omega)) ?_)))⟩
theorem qtV{K:qq}{t:Term}(hb:t.kind=3->(qS t.s K).isSome=true):uE K t=za K t:=by
 unfold uE za
 by_cases h:t.kind=3
 ·obtain⟨v,hv⟩:=Option.isSome_iff_exists.1 (hb h)
  rw[if_pos h,if_pos h,hv];rfl
 ·rw[if_neg h,if_neg h]
theorem qhT(K:qq)(ow:Own)(hKl:K.length<=2^20)(t:Term)(hb:t.kind=3->(qS t.s K).isSome=true):qg 213 [.sl (K.map wt) ow,qW t] (qW (za K t)):=by
 rw[<-qtV hb]
 exact qlr K ow (by omega) t
theorem qli(K:qq)(ow:Own)(hKl:K.length<=2^20)(a:Atom)(hA:a.args.length<=2^20)(hb:yY K a.args)(H:qa){kv kp:HP}(hk:∀n,H.next<=n->kv (qd (q9 K a)) ⟨H.objs,n⟩):
  cP E0 F0 185 [.sl (K.map wt) ow,qd a] H kv kp:=by
 refine qah c185 fun hH=>⟨Nat.le_of_ble_eq_true rfl,?_⟩
 obtain⟨N,hN⟩:∃N,H.next=N:=⟨_,rfl⟩
 obtain⟨ob0,nx0⟩:=H
 dsimp only at hN hk
 subst hN
 simp(disch:=omega)[b185]
 refine qy (σ:=NNFl) (fun q=>(.nd (.sl (K.map wt) ow) (.nd .bot (.nd (.ptr nx0 0) .nil .nil) (.nd (.ptr (nx0+1+1) 0) .nil .nil)) (.nd .bot (.nd (.ptr (nx0+1) 0) .nil .nil) (.nd (.int q.i) .nil .nil)))) (fun q=>⟨q.ob,q.n⟩) (fun q=>a.args.length - q.i)
  (fun q=>zP ⟨(nx0+1+1,.cells [.str a.pred,.sl (wP (za K) q.xs) q.own])::(nx0+1,.cells [S [],Nl])::(nx0,.cells [.str a.pred,qk a.args])::ob0,nx0+1+1+1⟩ 3 q.i q.own q.ob q.n/\q.i<=a.args.length/\q.xs.length=q.i/\q.xs++a.args.drop q.i=a.args)
  ⟨0,nx0+1+1+1,[],.full,(nx0+1+1,.cells [.str a.pred,Nl])::(nx0+1,.cells [S [],Nl])::(nx0,.cells [.str a.pred,qk a.args])::ob0⟩ ⟨.inl ⟨rfl,rfl,Nat.le_refl _⟩,Nat.zero_le _,rfl,by simp⟩ (by simp[FT.Le,Wk]) ⟨HWk.refl _,fun h=>h⟩ ?_
 rintro⟨i,n,xs,own,ob⟩ ⟨hr,hi,hxl,hxs⟩ hok
 dsimp only at hr hi hok hxl hxs
 have hfin:∀(ow:Own)(H':qa),HWk H' ⟨ob0,n⟩->xs=a.args->∃v',Wk (LV.agg [.str a.pred,.sl (wP (za K) xs) ow]) v'/\∃H'',HWk H' H''/\(H'.Ok->H''.Ok)/\kv v' H'':=by
  intro ow H' hw hx
  have hn0:nx0<=n:=by
   rcases hr with⟨_,_,h3⟩|⟨t,_,g1,g2,_⟩
   ·dsimp only at h3;omega
   ·dsimp only at g1;omega
  refine⟨qd (q9 K a),.inr (.inl ?_),⟨ob0,n⟩,hw,fun _=>qn.mono hH hn0,hk n hn0⟩
  subst hx
  simp[q9,LV.strip,qba,List.map_map,Function.comp_def]
 by_cases hlt:i<a.args.length
 case neg=>
  have hall:xs=a.args:=by rw[List.drop_eq_nil_of_le (by omega),List.append_nil]at hxs;exact hxs
  rcases hr with⟨rfl,rfl,h3⟩|⟨t,rfl,g1,g2,rfl⟩
  ·dsimp only at h3
   simp(disch:=omega)[hlt,z7]
   refine hfin _ _ ⟨Nat.le_refl _,fun i x hx=>?_⟩ hall
   have:i<nx0:=hH.look hx
   rw[qe (by omega),qe (by omega),qe (by omega)]
   exact hx
  ·dsimp only at g1
   simp(disch:=omega)[hlt,z7]
   refine hfin _ _ ⟨Nat.le_refl _,fun i x hx=>?_⟩ hall
   have:i<nx0:=hH.look hx
   rw[qe (by omega),qe (by omega),qe (by omega),qe (by omega)]
   exact hx
 have hX:=qoY (za K) xs
 obtain⟨X,hXe⟩:∃X,wP (za K) xs=X:=⟨_,rfl⟩
 have hXl:X.length=i:=by rw[<-hXe,List.length_map];exact hxl
 have hnew:wP (za K) (xs++[a.args[i]])=X++[qW (za K a.args[i])]:=by rw[<-hXe];simp[wP]
 have hxl2:(xs++[a.args[i]]).length=i+1:=by simp[hxl]
 have hxs2:(xs++[a.args[i]])++a.args.drop (i+1)=a.args:=by
  rw[List.append_assoc]
  show xs++(a.args[i]::a.args.drop (i+1))=a.args
  rw[<-List.drop_eq_getElem_cons hlt]
  exact hxs
 rw[hXe]at hX hr
 have hcan:i+1<=2^30:=by omega
 have hpl:=qhT K ow hKl a.args[i] (hb _ (List.getElem_mem hlt))
 rcases hr with⟨rfl,rfl,h3⟩|⟨t,rfl,g1,g2,rfl⟩
 ·dsimp only at h3
  simp(disch:=omega)[hlt]
  refine hpl.go fun n2 hn2=>?_
  simp(disch:=omega)
  refine qU ?_
  simp(disch:=omega)
  rw[qhE hX rfl (by rw[hXl];exact hcan) (by omega)]
  simp(disch:=omega)[hXl,qi (show i<2^62 by omega)]
  refine⟨⟨i+1,n2+1,xs++[a.args[i]],.tok n2,(n2,.tok (i+1) 3)::(nx0+1+1,.cells [.str a.pred,.sl (wP (za K) (xs++[a.args[i]])) (.tok n2)])::(nx0+1,.cells [S [],Nl])::(nx0,.cells [.str a.pred,qk a.args])::ob0⟩,by dsimp only;omega,⟨.inr ⟨n2,rfl,by dsimp only;omega,Nat.lt_succ_self _,rfl⟩,by dsimp only;omega,hxl2,hxs2⟩,by simp[FT.Le,Wk],?_⟩
  dsimp only
  rw[hnew]
  exact⟨HWk.refl _,fun h=>h⟩
 ·dsimp only at g1
  simp(disch:=omega)[hlt]
  refine hpl.go fun n2 hn2=>?_
  simp(disch:=omega)
  refine qU ?_
  simp(disch:=omega)
  rw[qhD hX rfl (by rw[hXl];exact hcan) (by omega) (by omega) (by rw[hXl];simp[look])]
  simp(disch:=omega)[hXl,qi (show i<2^62 by omega)]
  refine⟨⟨i+1,n2,xs++[a.args[i]],.tok t,(t,.tok (i+1) 3)::(nx0+1+1,.cells [.str a.pred,.sl (wP (za K) (xs++[a.args[i]])) (.tok t)])::(nx0+1,.cells [S [],Nl])::(nx0,.cells [.str a.pred,qk a.args])::ob0⟩,by dsimp only;omega,⟨.inr ⟨t,rfl,g1,by dsimp only;omega,rfl⟩,by dsimp only;omega,hxl2,hxs2⟩,by simp[FT.Le,Wk],?_⟩
  dsimp only
  rw[hnew]
  exact⟨HWk.refl _,fun h=>h⟩
structure NNRs where
 i:Nat
 n:Nat
def qgx:qo:=match qbs.body with
 |.seq _ (.seq r _)=>r
 |_=>.bad
theorem qrP(c:qf)(hb:c.body.length<2^40)(K:qq)(hn:(uj K).Nodup)(hargs:∀x∈c.body,x.atom.args.length<=2^20)(hok:∀x∈c.body,x.kind=2->qM (q9 K x.atom)=true)
  (F:List Stp) (fo am:Nat) (ownF:Own) (ko t1 t3 t5 t6:Nat) (k:Int) (z2 z4:LV) (ob:List (Nat×qc)) (n:Nat) (hF:uh ob fo am F ownF) (hko:look ko ob=some (.um (qJ K))) (l3:look t3 ob=some (.cells [.ptr fo 0])) (l5:look t5 ob=some (.cells (ww c)))
  {KX:XP} (hx1:qap F K c.body=true->∀n',n<=n'->KX .normal ((.nd (.map ko) (.nd (.ptr t1 0) (.nd (.ptr t3 0) .nil (.nd .bot .nil (.nd .bot .nil (.nd (.int c.body.length) .nil .nil)))) (.nd (.ptr t5 0) (.nd .bot .nil (.nd .bot .nil (.nd (zG c.body) .nil .nil))) .nil)) (.nd .bot (.nd .bot .nil (.nd .bot .nil (.nd .bot .nil (.nd (.sc (.bool false)) .nil .nil)))) (.nd (.ptr t6 0) (.nd .bot .nil (.nd .bot .nil (.nd (.int c.body.length) .nil .nil))) .nil)))) ⟨ob,n'⟩)
  (hx2:qap F K c.body=false->∀t' H' n',n<=n'->HWk H' ⟨ob,n'⟩->(H'.Ok->qa.Ok ⟨ob,n'⟩)->KX .ret t' H'):
  lP E0 F0 qgx ((.nd (.map ko) (.nd (.ptr t1 0) (.nd (.ptr t3 0) .nil .nil) (.nd (.ptr t5 0) .nil .nil)) (.nd .bot .nil (.nd (.ptr t6 0) .nil .nil)))) ⟨ob,n⟩ KX:=by
 refine qgV fun hH=>zS ?_
 have b3:t3<n:=hH.look l3
 have b5:t5<n:=hH.look l5
 have bf:fo<n:=hH.look hF.pair
 have bm:am<n:=hH.look hF.map
 have bk:ko<n:=hH.look hko
 simp(disch:=omega)[qgx,qbs,l5]
 obtain⟨A,hA⟩:∃A,qap F K c.body=A:=⟨_,rfl⟩
 rw[hA]at hx1 hx2
 refine qy (σ:=NNRs) (fun q=>(.nd (.map ko) (.nd (.ptr t1 0) (.nd (.ptr t3 0) .nil (.nd .bot .nil (.nd .bot .nil (.nd (.int q.i) .nil .nil)))) (.nd (.ptr t5 0) (.nd .bot .nil (.nd .bot .nil (.nd (zG c.body) .nil .nil))) .nil)) (.nd .bot .nil (.nd (.ptr t6 0) (.nd .bot .nil (.nd .bot .nil (.nd (.int c.body.length) .nil .nil))) .nil)))) (fun q=>⟨ob,q.n⟩) (fun q=>c.body.length - q.i)
  (fun q=>n<=q.n/\q.i<=c.body.length/\qap F K (c.body.drop q.i)=A) ⟨0,n⟩ ⟨Nat.le_refl _,Nat.zero_le _,by simpa using hA⟩ (by simp[FT.Le,Wk]) ⟨HWk.refl _,fun h=>h⟩ ?_
 rintro⟨i,m⟩ ⟨hm,hi,he⟩ hok1
 dsimp only at hm hi he hok1
 by_cases hlt:i<c.body.length
 case neg=>
  rw[List.drop_eq_nil_of_le (by omega)]at he
  have hA1:A=true:=he.symm
  obtain rfl:i=c.body.length:=by omega
  simp(disch:=omega)[hlt]
  exact hx1 hA1 m hm
 rw[List.drop_eq_getElem_cons hlt]at he
 simp only[qap]at he
 have hback:∀(m2:Nat)(x:qc),m+1<=m2->HWk ⟨(m,x)::ob,m2⟩ ⟨ob,m2⟩/\(qa.Ok ⟨(m,x)::ob,m2⟩->qa.Ok ⟨ob,m2⟩):=fun m2 x h2=>zK (H:=⟨ob,m⟩) hok1 (ql.cons hok1 (Nat.le_refl _) (ql.refl (Nat.le_refl _)) (by dsimp only;omega))
 have hmem:c.body[i]∈c.body:=List.getElem_mem hlt
 have hnx:IntKind.wrap .i64 ((i:Int)+1)=((i+1:Nat):Int):=qi (show i<2^62 by omega)
 by_cases k1:c.body[i].kind=1
 ·rw[if_pos k1]at he
  simp(disch:=omega)[hlt,k1,qi (show i<2^62 by omega)]
  obtain⟨g1,g2⟩:=hback (m+1) (.cells (y6 c.body[i])) (Nat.le_refl _)
  exact⟨⟨i+1,m+1⟩,by dsimp only;omega,⟨by dsimp only;omega,by dsimp only;omega,he⟩,by simp[FT.Le,Wk],by simpa [y6,k1] using g1,by simpa [y6,k1] using g2⟩
 rw[if_neg k1]at he
 by_cases k2:c.body[i].kind=2
 ·rw[if_pos k2]at he
  simp(disch:=omega)[hlt,k1,k2,l3,hF.pair]
  refine qlx c.body[i].atom (hargs _ hmem) K hn ko _ (by dsimp only;rw[qe (by omega)];exact hko) fun m2 hm2=>?_
  dsimp only at hm2
  simp(disch:=omega)[l3,hF.pair]
  refine(qgh _ (hok _ hmem k2)).go fun m3 hm3=>?_
  simp(disch:=omega)[l3,hF.pair]
  rw[lkM (by rw[qe (by omega)];exact hF.map)]
  have hh:zn (qG (q9 K c.body[i].atom)) F=(vJ (qG (q9 K c.body[i].atom)) (vv F 0)).isSome:=rfl
  cases hl:vJ (qG (q9 K c.body[i].atom)) (vv F 0) with
  |some v=>
   rw[hh,hl]at he
   have hA0:A=false:=he.symm
   simp(disch:=omega)[l3,hF.pair]
   obtain⟨g1,g2⟩:=hback m3 (.cells (y6 c.body[i])) (by omega)
   exact hx2 hA0 _ _ m3 (by omega) (by simpa [y6,k2] using g1) (by simpa [y6,k2] using g2)
  |none=>
   rw[hh,hl]at he
   simp(disch:=omega)[l3,hF.pair,qi (show i<2^62 by omega)]
   obtain⟨g1,g2⟩:=hback m3 (.cells (y6 c.body[i])) (by omega)
   exact⟨⟨i+1,m3⟩,by dsimp only;omega,⟨by dsimp only;omega,by dsimp only;omega,by simpa using he⟩,by simp[FT.Le,Wk],by simpa [y6,k2] using g1,by simpa [y6,k2] using g2⟩
 rw[if_neg k2]at he
 simp(disch:=omega)[hlt,k1,k2]
 refine qsA c.body[i] K hn ko _ (by dsimp only;rw[qe (by omega)];exact hko) fun m2 hm2=>?_
 dsimp only at hm2
 cases hc:qaV K c.body[i]
 ·rw[hc]at he
  have hA0:A=false:=he.symm
  simp(disch:=omega)
  obtain⟨g1,g2⟩:=hback m2 (.cells (y6 c.body[i])) hm2
  exact hx2 hA0 _ _ m2 (by omega) g1 g2
 ·rw[hc]at he
  simp(disch:=omega)[qi (show i<2^62 by omega)]
  obtain⟨g1,g2⟩:=hback m2 (.cells (y6 c.body[i])) hm2
  exact⟨⟨i+1,m2⟩,by dsimp only;omega,⟨by dsimp only;omega,by dsimp only;omega,by simpa using he⟩,by simp[FT.Le,Wk],g1,g2⟩
end Go.Abs.Tz
namespace Go.Abs.Tz
open Go Go.Abs Go.Proofs
theorem qpH(b off n c:Nat)(zs:List Int)(w:World)(hz:zs.length=n)(hbig:n<=2^40)(hc:∀j z,zs[j]? = some z->w.cell? ⟨b,off+j,none⟩=some (.int .i64 z)):
  Calls Tryz.prog 194 #[.slice (some ⟨b,off,none⟩) n c] w fun e w'=>∃v,e=.returned v/\w.grownBy w' none /\
   ((v=.slice none 0 0/\zs=[])\/∃g cap,v=.slice (some (at_ g 0)) zs.length cap/\w.heap.size<=g/\g<w'.heap.size/\zs.length<=cap/\∀i z,zs[i]? = some z->w'.cell? (at_ g i)=some (.int .i64 z)):=by
 refine(Tryz.slices_Clone_int b off n c zs w (by omega) (by omega) (fun j hj=>?_)).mono ?_
 ·rw[hc j zs[j] (List.getElem?_eq_getElem hj),List.getD_eq_getElem?_getD,List.getElem?_eq_getElem hj];rfl
 ·rintro e w' ⟨v',rfl,⟨hl,hr⟩,hne,hw⟩
  refine⟨v',rfl,qhc hw,?_⟩
  rcases hr with⟨h1,_⟩|⟨g,cap,cur,h1,h2,h3,h4,h5,h6,h7⟩
  ·exact absurd h1 hne
  ·subst hz
   refine .inr ⟨g,cap,h1,h2,(Array.getElem?_eq_some_iff.1 h3).1,h4,fun i z hi=>?_⟩
   have hil:i<zs.length:=(List.getElem?_eq_some_iff.1 hi).1
   have h8:(cur.toList.take (zs.length*1))[i]? = some (.int .i64 z):=by
    rw[h7,List.take_length,List.getElem?_map,hi];rfl
   rw[List.getElem?_take,if_pos (by omega)]at h8
   have h9:cur[i]? = some (.int .i64 z):=by simpa using h8
   unfold World.cell?
   simp only[h3]
   simpa using h9
theorem qsG(H:qa)(o len:Nat)(cs:List LV)(zs:List Int)(hl:look o H.objs=some (.arr 1 cs))(hlen:len<=cs.length)(hz:cs.take len=zs.map fun z=>.int z)(hbig:len<=2^40)
  {kv kp:HP} (hk:kv (.sl (zs.map fun z=>.int z) .no) H):cP E0 F0 194 [.asl o 0 len] H kv kp:=by
 intro hH
 refine .prim (qpW (zs:=zs) (enters_of (by kernel_rfl)) (.inl ⟨_,H,rfl,hH,hk⟩) fun G w us hI ha=>?_)
 obtain⟨u,rfl,hu⟩:=qdE ha
 obtain⟨hon,cap,hcap,_,rfl⟩:=hu.asl_inv
 obtain⟨_,vs,el,fz,h1,h2,h3,⟨h4,_,_⟩,h5,h6,h7⟩:=hI.objs o _ hl
 have hzl:zs.length=len:=by
  have:=congrArg List.length hz
  simpa [List.length_take,Nat.min_eq_left hlen] using this.symm
 rw[Nat.zero_mul]
 refine qpH (G.loc o) 0 len cap zs w hzl hbig fun j z hj=>?_
 have hjl:j<len:=by rw[<-hzl];exact(List.getElem?_eq_some_iff.1 hj).1
 have hcj:cs[j]? = some (.int z):=by
  have:(cs.take len)[j]? = some (.int z):=by rw[hz,List.getElem?_map,hj];rfl
  rwa [List.getElem?_take,if_pos hjl]at this
 have hv:=(h7 j _ hcj).1.sc_inv
 have hjv:j<vs.size:=by omega
 unfold World.cell?
 simp only[h1,Nat.zero_add]
 rw[Array.getD_eq_getD_getElem?,Array.getElem?_eq_getElem hjv]at hv
 simp only[Option.getD_some]at hv
 rw[Array.getElem?_eq_getElem hjv,hv]
 rfl
theorem qsF(zs:List Int)(own:Own)(hbig:zs.length<=2^40)(H:qa){kv kp:HP}(hk:kv (.sl (zs.map fun z=>.int z) .no) H):cP E0 F0 194 [.sl (zs.map fun z=>.int z) own] H kv kp:=by
 intro hH
 refine .prim (qpW (zs:=zs) (enters_of (by kernel_rfl)) (.inl ⟨_,H,rfl,hH,hk⟩) fun G w us hI ha=>?_)
 obtain⟨u,rfl,hu⟩:=qdE ha
 obtain⟨base,cap,rfl,hcap,_,hc⟩:=hu.sl_inv
 rw[List.length_map]at hcap ⊢
 have hg:∀(j:Nat) z,zs[j]? = some z->(zs.map fun z=>LV.int z)[j]? = some (.int z):=fun j z h=>by rw[List.getElem?_map,h];rfl
 rcases hc with⟨h1,rfl,_⟩|⟨b,off,sz,xv,rfl,hsz,hx,hr⟩
 ·have:zs=[]:=by simpa using h1
  subst this
  cases base with
  |none=>
   refine(Tryz.slices_Clone_int_nil 0 0 w).mono ?_
   rintro e w' ⟨rfl,rfl⟩
   exact⟨_,rfl,qfw _,.inl ⟨rfl,rfl⟩⟩
  |some a=>
   refine(Tryz.slices_Clone_int_zero a 0 w).mono ?_
   rintro e w' ⟨v',rfl,⟨hl,hr⟩,hne,hw⟩
   refine⟨v',rfl,qhc hw,?_⟩
   rcases hr with⟨h1,_⟩|⟨g,cap,cur,h1,h2,h3,h4,h5,h6,h7⟩
   ·exact absurd h1 hne
   ·exact .inr ⟨g,cap,h1,h2,(Array.getElem?_eq_some_iff.1 h3).1,h4,fun i z hi=>by simp at hi⟩
 ·refine qpH b off zs.length cap zs w rfl hbig fun j z hj=>?_
  have hz1:sz=1:=(hsz j _ (hg j z hj)).symm
  subst hz1
  obtain⟨_,h2,_⟩:=hx j _ 0 _ (hg j z hj) rfl
  have h3:=(hr j _ 0 _ (hg j z hj) rfl).sc_inv
  rw[h3]at h2
  simpa using h2
end Go.Abs.Tz
namespace Go.Abs.Tz
open Go Go.Abs Go.Proofs
set_option maxRecDepth 20000
set_option linter.unusedSimpArgs false
attribute [local simp ↓] yb ya jv ju gI ut zg zB jr up yP yQ yc ye yf yd jA jD jG jB jH jI jE jF jC jy jw jz jx yN yL yO yM g7 gZ g8 g6 yk yh yj uu zx jL zh z7 gL yS yT yo yq yp ym yn yz jO jT jW jS jU jV gy gx j5 j7 jb uZ jm jp u9 jh jl jk jj ji jf uV uW uX uY jn jd je uT jo jq ja jc jg uU gb j6 gu gC j8 gj gt gq gp gk gh j0 gw gf gg jX gA gD j9 gd gi jY gG gz jZ gF ge ga gc j3 gv jP jR jQ yu yx yt yv yw qp uL
attribute [local simp] faL fdL iaL ixL qL zb qV eqK eqL qR zo uO yr yK yA yC yE yG yI yJ yB yF yD yH zC LV.cells LV.whole qp uC uw jM stL zF zR uq qa.alloc gJ gH gK gY gW gV gU gT gS gQ gO gN gM qe ux
def qbx(ob:List (Nat×qc))(v:LV)(frm:List Int):Prop:=(v=Nl/\frm=[])\/∃ao cs,v=.asl ao 0 frm.length/\look ao ob=some (.arr 1 cs)/\frm.length<=cs.length/\cs.take frm.length=frm.map LV.int
theorem qsH{ob:List (Nat×qc)}{v:LV}{frm:List Int}(h:qbx ob v frm)(hl:frm.length<=2^40){n:Nat}{kv kp:HP}(hk:kv (.sl (frm.map LV.int) .no) ⟨ob,n⟩):cP E0 F0 194 [v] ⟨ob,n⟩ kv kp:=by
 rcases h with⟨rfl,rfl⟩|⟨ao,cs,rfl,h1,h2,h3⟩
 ·exact qsF [] .full (by simp) _ hk
 ·exact qsG ⟨ob,n⟩ ao frm.length cs frm h1 h2 h3 hl hk
def qjw:qo:=match qbs.body with
 |.seq h _=>h
 |_=>.bad
def qge:qo:=match qbs.body with
 |.seq _ (.seq _ t)=>t
 |_=>.bad
theorem qqf:qbs.body=.seq qjw (.seq qgx qge):=rfl
theorem qbx.len{ob:List (Nat×qc)}{v:LV}{frm:List Int}(h:qbx ob v frm)(H:qa):qV H 1 v=some frm.length:=by
 rcases h with⟨rfl,rfl⟩|⟨ao,cs,rfl,_⟩<;>rfl
def qcF:qc->Bool
 |.cells _=>true
 |.map _=>true
 |.tok _ _=>true
 |_=>false
def wb(L ob:List (Nat×qc)):Prop:=∀p∈L,look p.1 ob=some p.2
structure qeD(σ:Type) where
 fn:FuncId
 cap:List LV
 Stat:List (Nat×qc)
 At:List (Nat×qc)->σ->(Nat->Prop)->Prop
 step:σ->Atom->List Int->σ
 lim:σ->Prop
 lim_step:∀s a frm,lim s->lim (step s a frm)
 at_look:∀(ob:List (Nat×qc))(s:σ)(S:Nat->Prop)(i:Nat),At ob s S->S i->∃x,look i ob=some x/\qcF x=true
 at_keep:∀(ob ob':List (Nat×qc))(s:σ)(S:Nat->Prop),At ob s S->(∀i,S i->look i ob'=look i ob)->At ob' s S
 ok:∀(ob:List (Nat×qc))(n:Nat)(s:σ)(S:Nat->Prop)(a:Atom)(frm:List Int)(kv kp:HP),lim s->qM a=true->At ob s S->wb Stat ob->(∀p∈Stat,¬S p.1)->qQ ob ->
  (∀ob' n' S',n<=n'->At ob' (step s a frm) S'->(∀i,S' i->S i\/n<=i)->qQ ob'->(∀i,i<n->¬S i->look i ob'=look i ob)->kv (.tup []) ⟨ob',n'⟩) ->
  cP E0 F0 fn ([qd a,.sl (frm.map LV.int) .no]++cap) ⟨ob,n⟩ kv kp
structure ChI where
 c:qf
 F:List Stp
 fo:Nat
 am:Nat
 ownF:Own
 ow:Own
 t1:Nat
 t2:Nat
 t3:Nat
 t4:Nat
 t5:Nat
 t6:Nat
 L:List (Nat×qc)
structure ChOk{σ:Type}(D:qeD σ)(I:ChI):Prop where
 good:zQ I.c
 hDL:∀p∈D.Stat,p∈I.L
 pl:∀p∈I.L,qcF p.2=true
 hF:∀ob,wb I.L ob->uh ob I.fo I.am I.F I.ownF
 Fg:∀s∈I.F,qI s.atom
 Fl:I.F.length<=2^20
 t1L:∀p∈I.L,p.1≠I.t1
 e2:(I.t2,qc.cells [.sl ((qO I.c.body).map qd) I.ow])∈I.L
 e3:(I.t3,qc.cells [.ptr I.fo 0])∈I.L
 e4:(I.t4,qc.cells [.fn (.func 192) [] [.ptr I.t1 0,.ptr I.t2 0,.ptr I.t3 0,.ptr I.t4 0,.ptr I.t5 0,.ptr I.t6 0]])∈I.L
 e5:(I.t5,qc.cells (ww I.c))∈I.L
 e6:(I.t6,qc.cells [.fn (.func D.fn) [] D.cap])∈I.L
structure qdJ{σ:Type}(D:qeD σ)(I:ChI)(ob:List (Nat×qc))(G:σ)(S:Nat->Prop)(frm:List Int)(fv:LV):Prop where
 st:wb I.L ob
 at_:D.At ob G S
 sep:∀p∈I.L,¬S p.1
 c1:look I.t1 ob=some (.cells [fv])
 t1S:¬S I.t1
 fr:qbx ob fv frm
 ni:qQ ob
def qkw(I:ChI)(n:Nat)(S:Nat->Prop)(fv:LV)(ob ob':List (Nat×qc)):Prop:=∀i,i<n->¬S i->i≠I.t1->(∀a o l,fv=.asl a o l->i≠a)->look i ob'=look i ob
section
variable{σ:Type}{D:qeD σ}{I:ChI}
theorem qdJ.notS(hC:ChOk D I){ob:List (Nat×qc)}{G:σ}{S:Nat->Prop}{frm:List Int}{fv:LV}(h:qdJ D I ob G S frm fv){i:Nat}{x:qc}(hl:look i ob=some x)(hx:qcF x=false):¬S i:=fun hs=>by
 obtain⟨y,h1,h2⟩:=D.at_look _ _ _ _ h.at_ hs
 rw[hl]at h1
 cases h1
 rw[hx]at h2
 cases h2
theorem qbx.keep{ob ob':List (Nat×qc)}{v:LV}{frm:List Int}(h:qbx ob v frm)(hk:∀a o l,v=.asl a o l->look a ob'=look a ob):qbx ob' v frm:=by
 rcases h with h|⟨ao,cs,h1,h2,h3⟩
 ·exact .inl h
 ·exact .inr ⟨ao,cs,h1,by rw[hk _ _ _ h1];exact h2,h3⟩
theorem qsJ(hC:ChOk D I)(K:qq)(frm:List Int)(G:σ)(hK:uA K)(hb:∀p∈qO I.c.body,yY K p.args)(hpos:(qO I.c.body).length=frm.length)(hfl:frm.length<=2^20)(hlim:D.lim G)
  (ob:List (Nat×qc)) (n:Nat) (S:Nat->Prop) (fv:LV) (ko:Nat) (h:qdJ D I ob G S frm fv) (hko:look ko ob=some (.um (qJ K))) {kv kp:HP}
  (hk:∀ob' n' S' fv',n<=n'->qdJ D I ob' (vW D.step I.c (vU I.F I.c [] K frm) G) S' frm fv'->(∀i,S' i->S i\/n<=i)->(∀a o l,fv'=.asl a o l->n<=a\/∃o2 l2,fv=.asl a o2 l2)->qkw I n S fv ob ob'->kv (.tup []) ⟨ob',n'⟩):
  cP E0 F0 192 [.map ko,.ptr I.t1 0,.ptr I.t2 0,.ptr I.t3 0,.ptr I.t4 0,.ptr I.t5 0,.ptr I.t6 0] ⟨ob,n⟩ kv kp:=by
 refine qdA c192 (Nat.le_of_ble_eq_true rfl) fun hH=>?_
 rw[qqf]
 have hF:=hC.hF ob h.st
 have l1:=h.c1
 have l2:look I.t2 ob=some (.cells [.sl ((qO I.c.body).map qd) I.ow]):=h.st _ hC.e2
 have l3:look I.t3 ob=some (.cells [.ptr I.fo 0]):=h.st _ hC.e3
 have l5:look I.t5 ob=some (.cells (ww I.c)):=h.st _ hC.e5
 have l6:look I.t6 ob=some (.cells [.fn (.func D.fn) [] D.cap]):=h.st _ hC.e6
 have b1:I.t1<n:=hH.look l1
 have b5:I.t5<n:=hH.look l5
 have b6:I.t6<n:=hH.look l6
 obtain⟨cp1,cp2,cp3⟩:=wT hC.good.ok
 obtain⟨g1,g2⟩:=hC.good.leaf hK hb
 have hargs:∀x∈I.c.body,x.atom.args.length<=2^20:=fun x hx=>by have:=qgS (cp3 x hx);omega
 have hh:I.c.head.args.length<=2^20:=by have:=(qai cp1).1;omega
 have hlt:¬(frm.length:Int)<(((qO I.c.body).length:Nat):Int):=by omega
 simp(disch:=omega)
 refine g9 (zS ?_)
 simp(disch:=omega)[qjw,qbs,l1,l2]
 refine⟨frm.length,h.fr.len ⟨ob,n⟩,?_⟩
 simp(disch:=omega)[l2,hlt]
 show lP E0 F0 (.seq qgx qge) _ _ _
 refine vh (t':=(.nd (.map ko) (.nd (.ptr I.t1 0) (.nd (.ptr I.t3 0) .nil .nil) (.nd (.ptr I.t5 0) .nil .nil)) (.nd .bot .nil (.nd (.ptr I.t6 0) .nil .nil)))) (fun l h=>by cases h) (by simp[FT.Le,Wk]) (HWk.refl _) (fun h=>h) ?_
 refine g9 (qrP I.c (by omega) K hK.nd hargs (fun x hx hk2=>(g1 x hx hk2).1) I.F I.fo I.am I.ownF ko I.t1 I.t3 I.t5 I.t6 0 .bot .bot ob n hF hko l3 l5 (fun hr n2 hn2=>?_) (fun hr t' H' n2 hn2 hwk hok2=>?_))
 ·show lP E0 F0 qge _ _ _
  refine zS ?_
  simp(disch:=omega)[qge,qbs,l1,l5,l6]
  refine qlx I.c.head hh K hK.nd ko ⟨ob,n2⟩ hko fun n3 hn3=>?_
  dsimp only at hn3
  simp(disch:=omega)[l1,l5,l6]
  refine qsH h.fr (by omega) ?_
  simp(disch:=omega)[l1,l5,l6]
  have e:vW D.step I.c (vU I.F I.c [] K frm) G=D.step G (q9 K I.c.head) frm:=by simp[vW,vU,hr]
  rw[e]at hk
  refine D.ok ob n3 G S (q9 K I.c.head) frm _ _ hlim g2.1 h.at_ (fun p hp=>h.st p (hC.hDL p hp)) (fun p hp=>h.sep p (hC.hDL p hp)) h.ni fun ob' n4 S' hn4 hA' hS' hni hsame=>?_
  simp(disch:=omega)[zh]
  have hst:wb I.L ob':=fun p hp=>by
   rw[hsame _ ?_ (h.sep p hp)]
   ·exact h.st p hp
   ·have:p.1<n:=hH.look (h.st p hp)
    omega
  refine⟨_,HWk.refl _,fun h=>h,hk ob' n4 S' fv (by omega) ⟨hst,hA',fun p hp hs=>?_,?_,fun hs=>?_,h.fr.keep fun a o l he=>?_,hni⟩ (fun i hi=>(hS' i hi).imp id fun h=>by omega) (fun a o l he=>.inr ⟨o,l,he⟩) fun i hi h1 _ _=>hsame i (by omega) h1⟩
  ·have:p.1<n:=hH.look (h.st p hp)
   rcases hS' _ hs with h1|h1
   ·exact h.sep p hp h1
   ·omega
  ·rw[hsame _ (by omega) h.t1S];exact l1
  ·rcases hS' _ hs with h1|h1
   ·exact h.t1S h1
   ·omega
  ·rcases h.fr with⟨e1,_⟩|⟨ao,cs,e1,e2,_⟩
   ·rw[e1]at he;cases he
   ·rw[e1]at he
    simp only[LV.asl.injEq]at he
    obtain⟨rfl,rfl,rfl⟩:=he
    have:=hH.look e2
    dsimp only at this
    exact hsame _ (by omega) (h.notS hC e2 rfl)
 ·have e:vW D.step I.c (vU I.F I.c [] K frm) G=G:=by simp[vW,vU,hr]
  rw[e]at hk
  show vp E0 qbs.res t' H' _
  rw[show qbs.res=[] from rfl,zh]
  exact⟨_,hwk,hok2,hk ob n2 S fv hn2 h (fun i hi=>.inl hi) (fun a o l he=>.inr ⟨o,l,he⟩) fun _ _ _ _ _=>rfl⟩
end
theorem qvg{i j:Nat}(h:i≠j)(l:List (Nat×qc)):look i (zZ j l)=look i l:=by rw[qcI,if_neg h]
theorem qvf{j:Nat}{l:List (Nat×qc)}{i:Nat}{x:qc}(h:look i (zZ j l)=some x):look i l=some x:=by
 rw[qcI]at h
 split at h
 ·cases h
 ·exact h
theorem qQ.del{ob:List (Nat×qc)}(h:qQ ob)(m:Nat):qQ (zZ m ob):=qdZ.2 fun i y hy=>qdZ.1 h i y (qvf hy)
theorem qwc{ob:List (Nat×qc)}{v:LV}{frm:List Int}(h:qbx ob v frm)(hl:frm.length<=2^20)(j:Int)(n:Nat):
  ∃ob',qaB ⟨ob,n⟩ 1 v (.sl [.int j] .full)=some (.asl n 0 (frm.length+1),⟨ob',n+1⟩)/\qbx ob' (.asl n 0 (frm.length+1)) (frm++[j])/\(qQ ob->qQ ob')/\∀i,i≠n->(∀a o l,v=.asl a o l->i≠a)->look i ob'=look i ob:=by
 rcases h with⟨rfl,rfl⟩|⟨ao,cs,rfl,h1,h2,h3⟩
 ·refine⟨(n,.arr 1 [.int j])::ob,rfl,.inr ⟨n,[.int j],rfl,qp _ _ _,by simp,by simp⟩,fun hI=>hI.cons _ rfl,fun i hi _=>qe hi _ _⟩
 ·have e:wy ⟨ob,n⟩ 1 (.asl ao 0 frm.length)=some (cs.take (frm.length*1),⟨zZ ao ob,n⟩,frm.length):=by
   simp only[wy,h1]
   rw[if_pos ⟨trivial,by omega⟩]
   rfl
  have e2:qca ⟨ob,n⟩ 1 (.sl [.int j] .full)=some ([.int j],1):=rfl
  refine⟨(n,.arr 1 (cs.take (frm.length*1)++[.int j]))::zZ ao ob,?_,.inr ⟨n,_,by simp,qp _ _ _,?_,?_⟩,fun hI=>(hI.del _).cons _ rfl,fun i hi hne=>?_⟩
  ·unfold qaB
   rw[e,e2]
   simp only
   rw[if_neg (by omega),if_pos ⟨by omega,by omega⟩]
   rfl
  ·simp only[List.length_append,List.length_take,List.length_cons,List.length_nil]
   omega
  ·rw[Nat.mul_one,h3,List.take_of_length_le (by simp),List.map_append]
   rfl
  ·rw[qe hi,qvg (hne ao 0 frm.length rfl)]
structure NNCh(σ:Type) where
 i:Nat
 n:Nat
 ob:List (Nat×qc)
 G:σ
 S:Nat->Prop
 fv:LV
section
variable{σ:Type}{D:qeD σ}{I:ChI}
def qef(F:List Stp)(c:qf)(p:Atom)(ps:List Atom)(K:qq)(frm:List Int)(i:Nat):List (qq×List Int):=((List.range F.length).drop i).flatMap fun j=>match F[j]? with
  |some s=>match z1 K p s.atom with
   |some R=>vU F c ps R (frm++[(j:Int)])
   |none=>[]
  |none=>[]
theorem qnV(F:List Stp)(c:qf)(p:Atom)(ps:List Atom)(K:qq)(frm:List Int){i:Nat}(h:i<F.length):qef F c p ps K frm i=(match z1 K p F[i].atom with
   |some R=>vU F c ps R (frm++[(i:Int)])
   |none=>[])++qef F c p ps K frm (i+1):=by
 unfold qef
 rw[List.drop_eq_getElem_cons (by simpa using h),List.flatMap_cons]
 congr 1
 rw[List.getElem_range,List.getElem?_eq_getElem h]
theorem qwh{step:σ->Atom->List Int->σ}{c:qf}(l m:List (qq×List Int))(s:σ):vW step c (l++m) s=vW step c m (vW step c l s):=List.foldl_append ..
theorem qoC(c:qf):∀(l:List (qq×List Int))(s:σ),D.lim s->D.lim (vW D.step c l s)
 |[],_,h=>h
 |x::l,s,h=>qoC c l _ (D.lim_step s _ _ h)
theorem qlB(hC:ChOk D I):∀(ps:List Atom)(don:List Atom)(K:qq)(frm:List Int)(G:σ),qO I.c.body=don++ps->don.length=frm.length->uA K->(∀p∈don,yY K p.args)->D.lim G ->
  ∀(ob:List (Nat×qc))(n:Nat)(S:Nat->Prop)(fv:LV)(ko:Nat),qdJ D I ob G S frm fv->look ko ob=some (.um (qJ K))->∀{kv kp:HP},
  (∀ob' n' S' fv',n<=n'->qdJ D I ob' (vW D.step I.c (vU I.F I.c ps K frm) G) S' frm fv'->(∀i,S' i->S i\/n<=i)->(∀a o l,fv'=.asl a o l->n<=a\/∃o2 l2,fv=.asl a o2 l2)->qkw I n S fv ob ob'->kv (.tup []) ⟨ob',n'⟩) ->
  cP E0 F0 192 [.map ko,.ptr I.t1 0,.ptr I.t2 0,.ptr I.t3 0,.ptr I.t4 0,.ptr I.t5 0,.ptr I.t6 0] ⟨ob,n⟩ kv kp
 |[],don,K,frm,G,hp,hd,hK,hb,hlim,ob,n,S,fv,ko,h,hko,_,_,hk=>by
  rw[List.append_nil]at hp
  have hpl:(qO I.c.body).length<=5:=by
   obtain⟨_,h2,_⟩:=wT hC.good.ok
   unfold qO
   rw[List.length_map]
   exact Nat.le_trans (List.length_filter_le _ _) h2
  exact qsJ hC K frm G hK (by rw[hp];exact hb) (by rw[hp,hd]) (by rw[<-hd,<-hp];omega) hlim ob n S fv ko h hko hk
 |p::ps,don,K,frm,G,hp,hd,hK,hb,hlim,ob,n,S,fv,ko,h,hko,kv,kp,hk=>by
  have hpl:(qO I.c.body).length<=5:=by
   obtain⟨_,h2,_⟩:=wT hC.good.ok
   unfold qO
   rw[List.length_map]
   exact Nat.le_trans (List.length_filter_le _ _) h2
  have hpl2:(qO I.c.body).length=frm.length+(ps.length+1):=by rw[hp,List.length_append,hd,List.length_cons]
  have hget:(qO I.c.body)[frm.length]? = some p:=by rw[hp,List.getElem?_append_right (by omega),hd];simp
  have hpok:qM p=true:=hC.good.posOk p (by rw[hp];simp)
  refine qdA c192 (Nat.le_of_ble_eq_true rfl) fun hH=>?_
  rw[qqf]
  have hF:=hC.hF ob h.st
  have l1:=h.c1
  have l2:look I.t2 ob=some (.cells [.sl ((qO I.c.body).map qd) I.ow]):=h.st _ hC.e2
  have l3:look I.t3 ob=some (.cells [.ptr I.fo 0]):=h.st _ hC.e3
  have hlt:(frm.length:Int)<(((qO I.c.body).length:Nat):Int):=by omega
  simp(disch:=omega)
  refine g9 (zS ?_)
  simp(disch:=omega)[qjw,qbs,l1,l2]
  refine⟨frm.length,h.fr.len ⟨ob,n⟩,?_⟩
  simp(disch:=omega)[l2,l3,hF.pair,hlt]
  obtain⟨A,hA⟩:∃A,vW D.step I.c (vU I.F I.c (p::ps) K frm) G=A:=⟨_,rfl⟩
  rw[hA]at hk
  refine qy (σ:=NNCh σ) (fun q=>(.nd (.map ko) (.nd (.ptr I.t1 0) (.nd (.ptr I.t3 0) .nil .nil) (.nd (.ptr I.t5 0) (.nd .bot .nil (.nd (.int I.F.length) .nil .nil)) .nil)) (.nd (.ptr I.t2 0) (.nd (.ptr I.t4 0) (.nd (.int frm.length) .nil .nil) .nil) (.nd (.ptr I.t6 0) (.nd .bot .nil (.nd (.int q.i) .nil .nil)) .nil)))) (fun q=>⟨q.ob,q.n⟩) (fun q=>I.F.length - q.i)
   (fun q=>n<=q.n/\q.i<=I.F.length/\D.lim q.G/\vW D.step I.c (qef I.F I.c p ps K frm q.i) q.G=A/\qdJ D I q.ob q.G q.S frm q.fv/\(∀i,q.S i->S i\/n<=i)/\(∀a o l,q.fv=.asl a o l->n<=a\/∃o2 l2,fv=.asl a o2 l2)/\qkw I n S fv ob q.ob)
   ⟨0,n,ob,G,S,fv⟩ ⟨Nat.le_refl _,Nat.zero_le _,hlim,hA,h,fun i hi=>.inl hi,fun a o l he=>.inr ⟨o,l,he⟩,fun _ _ _ _ _=>rfl⟩ (by simp[FT.Le,Wk]) ⟨HWk.refl _,fun h=>h⟩ ?_
  rintro⟨i,m,ob1,G1,S1,fv1⟩ ⟨hm,hi,hlim1,hfold,h1,hS1,hfv1,hkept⟩ hok
  dsimp only at hm hi hlim1 hfold h1 hS1 hfv1 hkept hok
  by_cases hin:i<I.F.length
  case neg=>
   obtain rfl:i=I.F.length:=by omega
   have e:vW D.step I.c (qef I.F I.c p ps K frm I.F.length) G1=G1:=by
    unfold qef
    rw[List.drop_eq_nil_of_le (by simp)]
    rfl
   rw[e]at hfold
   simp(disch:=omega)[zh]
   exact⟨_,HWk.refl _,fun h=>h,hk ob1 m S1 fv1 hm (by rw[<-hfold];exact h1) hS1 hfv1 hkept⟩
  have hF1:=hC.hF ob1 h1.st
  have k1:=h1.c1
  have k2:look I.t2 ob1=some (.cells [.sl ((qO I.c.body).map qd) I.ow]):=h1.st _ hC.e2
  have k3:look I.t3 ob1=some (.cells [.ptr I.fo 0]):=h1.st _ hC.e3
  have k4:=h1.st _ hC.e4
  dsimp only at k4
  have b1:I.t1<m:=hok.look k1
  have hge:(qO I.c.body)[frm.length]'(by omega)=p:=by
   rw[List.getElem?_eq_getElem (by omega)]at hget
   exact Option.some.inj hget
  have hkn:ko<n:=hH.look hko
  have hko1:look ko ob1=some (.um (qJ K)):=by
   rw[hkept ko hkn (h.notS hC hko rfl) (fun e=>by rw[e,l1]at hko;cases hko) (fun a o l he e=>?_)]
   ·exact hko
   ·rcases h.fr with⟨e1,_⟩|⟨ao,cs,e1,e2,_⟩
    ·rw[e1]at he;cases he
    ·rw[e1]at he
     simp only[LV.asl.injEq]at he
     rw[he.1,<-e,hko]at e2
     cases e2
  simp(disch:=omega)[hin,k2,k3,hF1.pair,hge,hpl2]
  refine qsN p I.F[i].atom (wX hpok) (wX (hC.Fg _ (List.getElem_mem hin)).1) _ ko K hko1 (fun i m l k n hl=>absurd hl (h1.ni _ _ _ _ _)) hK.nd (fun hbn=>?_) (fun R hbr=>?_)
  ·rw[qnV _ _ _ _ _ _ hin,hbn]at hfold
   simp(disch:=omega)[k2,k3,hF1.pair,qi (show i<2^62 by have:=hC.Fl;omega)]
   exact⟨⟨i+1,m,ob1,G1,S1,fv1⟩,by dsimp only;omega,⟨hm,by dsimp only;omega,hlim1,hfold,h1,hS1,hfv1,hkept⟩,by simp[FT.Le,Wk],HWk.refl _,fun h=>h⟩
  ·rw[qnV _ _ _ _ _ _ hin,hbr,qwh]at hfold
   have hfr1:qbx ((m+2,.um (qJ R))::ob1) fv1 frm:=h1.fr.keep fun a o l he=>by
    rcases h1.fr with⟨e1,_⟩|⟨ao,cs,e1,e2,_⟩
    ·rw[e1]at he;cases he
    ·rw[e1]at he
     simp only[LV.asl.injEq]at he
     rw[<-he.1]
     have:=hok.look e2
     dsimp only at this
     exact qe (by omega) _ _
   have hfl:frm.length<=2^20:=by omega
   obtain⟨ob2,ha,hfr2,hni2,hkeep2⟩:=qwc hfr1 hfl (i:Int) (m+3)
   have hob2:∀j,j<m->(∀a o l,fv1=.asl a o l->j≠a)->look j ob2=look j ob1:=fun j hj hne=>by
    rw[hkeep2 j (by omega) hne,qe (by omega)]
   have hna:∀j x,look j ob1=some x->qcF x=true->∀a o l,fv1=.asl a o l->j≠a:=fun j x hx hpx a o l he e=>by
    rcases h1.fr with⟨e1,_⟩|⟨ao,cs,e1,e2,_⟩
    ·rw[e1]at he;cases he
    ·rw[e1]at he
     simp only[LV.asl.injEq]at he
     rw[he.1,<-e,hx]at e2
     cases e2
     cases hpx
   have hpl2':∀j x,look j ob1=some x->qcF x=true->look j ob2=some x:=fun j x hx hpx=>by
    rw[hob2 j (by have:=hok.look hx;exact this) (hna j x hx hpx)];exact hx
   have j1:look I.t1 ob2=some (.cells [fv1]):=hpl2' _ _ k1 rfl
   have j4:=hpl2' _ _ k4 rfl
   have ht41:I.t4≠I.t1:=hC.t1L _ hC.e4
   simp(disch:=omega)[k1,k2,k3,hF1.pair]
   refine qaf ?_
   simp(disch:=omega)[ha,j1]
   have hob3:∀j,j≠I.t1->look j (qx I.t1 (.cells [.asl (m+3) 0 (frm.length+1)]) ob2)=look j ob2:=fun j hj=>vS hj
   obtain⟨ob3,hob3e⟩:∃ob3,qx I.t1 (.cells [.asl (m+3) 0 (frm.length+1)]) ob2=ob3:=⟨_,rfl⟩
   have j14:look I.t1 ob3=some (.cells [.asl (m+3) 0 (frm.length+1)]):=by rw[<-hob3e];exact vI j1
   have hni3:qQ ob3:=by rw[<-hob3e];exact(hni2 (h1.ni.cons _ rfl)).put _ rfl
   rw[hob3e]at hob3 ⊢
   have j44:=(hob3 _ ht41).trans j4
   simp(disch:=omega)[j44]
   have hpl3:∀j x,j≠I.t1->look j ob1=some x->qcF x=true->look j ob3=some x:=fun j x hj hx hpx=>by rw[hob3 j hj];exact hpl2' j x hx hpx
   have hst3:wb I.L ob3:=fun q hq=>hpl3 _ _ (hC.t1L q hq) (h1.st q hq) (hC.pl q hq)
   have hS1t:∀j,S1 j->j≠I.t1:=fun j hj e=>h1.t1S (e▸hj)
   have hat3:D.At ob3 G1 S1:=D.at_keep _ _ _ _ h1.at_ fun j hj=>by
    obtain⟨x,hx,hpx⟩:=D.at_look _ _ _ _ h1.at_ hj
    rw[hx]
    exact hpl3 j x (hS1t j hj) hx hpx
   have hfr3:qbx ob3 (.asl (m+3) 0 (frm.length+1)) (frm++[(i:Int)]):=hfr2.keep fun a o l he=>by
    simp only[LV.asl.injEq]at he
    exact hob3 a (by omega)
   have hne1:m+2≠I.t1:=by omega
   have hko3:look (m+2) ob3=some (.um (qJ R)):=by
    rw[hob3 _ hne1,hkeep2 _ (by omega) (fun a o l he e=>?_),qp]
    rcases h1.fr with⟨e1,_⟩|⟨ao,cs,e1,e2,_⟩
    ·rw[e1]at he;cases he
    ·rw[e1]at he
     simp only[LV.asl.injEq]at he
     have:=hok.look e2
     dsimp only at this
     omega
   obtain⟨gR,gX,gB,_⟩:=qhB hK (hC.Fg _ (List.getElem_mem hin)) hbr
   refine qlB hC ps (don++[p]) R (frm++[(i:Int)]) G1 (by rw[hp];simp) (by simp[hd]) gR (fun q hq=>?_) hlim1 ob3 (m+4) S1 _ (m+2) ⟨hst3,hat3,h1.sep,j14,h1.t1S,hfr3,hni3⟩ hko3 fun ob4 n4 S4 fv4 hn4 h4 hS4 hfv4 hkept4=>?_
   ·rcases List.mem_append.1 hq with hq|hq
    ·exact(hb q hq).ext gX
    ·simp at hq
     subst hq
     exact gB
   have m1:=h4.c1
   obtain⟨a4,cs4,e4,f1,f2,f3⟩:∃ao cs,fv4=.asl ao 0 (frm.length+1)/\look ao ob4=some (.arr 1 cs)/\frm.length+1<=cs.length/\cs.take (frm.length+1)=(frm++[(i:Int)]).map LV.int:=by
    rcases h4.fr with⟨_,e⟩|⟨ao,cs,e1,e2,e3,e5⟩
    ·simp at e
    ·simp only[List.length_append,List.length_cons,List.length_nil]at e1 e3 e5
     exact⟨ao,cs,e1,e2,e3,e5⟩
   subst e4
   have hsl:zC 1 1 (.asl a4 0 (frm.length+1)) 0 frm.length=some (.asl a4 0 frm.length):=by
    simp[zC]
   simp(disch:=omega)[m1,qi (show i<2^62 by have:=hC.Fl;omega)]
   obtain⟨ob5,hob5e⟩:∃ob5,qx I.t1 (.cells [.asl a4 0 frm.length]) ob4=ob5:=⟨_,rfl⟩
   rw[hob5e]
   have hob5:∀j,j≠I.t1->look j ob5=look j ob4:=fun j hj=>by rw[<-hob5e];exact vS hj
   have hS4t:∀j,S4 j->j≠I.t1:=fun j hj e=>h4.t1S (e▸hj)
   have ha4:n<=a4:=by
    rcases hfv4 _ _ _ rfl with h|⟨_,_,h⟩
    ·omega
    ·simp only[LV.asl.injEq]at h;omega
   refine⟨⟨i+1,n4,ob5,vW D.step I.c (vU I.F I.c ps R (frm++[(i:Int)])) G1,S4,.asl a4 0 frm.length⟩,by dsimp only;omega,⟨by dsimp only;omega,by dsimp only;omega,qoC _ _ _ hlim1,hfold,⟨?_,?_,h4.sep,?_,h4.t1S,?_,?_⟩,?_,?_,?_⟩,by simp[FT.Le,Wk],HWk.refl _,fun h=>h⟩
   ·exact fun q hq=>by
     rw[hob5 _ (hC.t1L q hq)];exact h4.st q hq
   ·exact D.at_keep _ _ _ _ h4.at_ fun j hj=>hob5 j (hS4t j hj)
   ·dsimp only
    rw[<-hob5e];exact vI m1
   ·refine .inr ⟨a4,cs4,rfl,?_,by omega,?_⟩
    ·dsimp only
     rw[hob5 _ (fun e=>by rw[e,m1]at f1;cases f1)];exact f1
    ·have:=congrArg (List.take frm.length) f3
     rw[List.take_take,Nat.min_eq_left (by omega),<-List.map_take,List.take_left]at this
     exact this
   ·dsimp only
    rw[<-hob5e];exact h4.ni.put _ rfl
   ·intro j hj
    rcases hS4 j hj with h|h
    ·exact hS1 j h
    ·exact .inr (by omega)
   ·intro a o l he
    simp only[LV.asl.injEq]at he
    exact .inl (by omega)
   ·intro j hj hjS hjt hja
    dsimp only
    rw[hob5 j hjt,hkept4 j (by omega) (fun hs=>?_) hjt (fun a o l he=>?_),hob3 j hjt,hob2 j (by omega) (fun a o l he=>?_)]
    ·exact hkept j hj hjS hjt hja
    ·rcases hfv1 a o l he with h|⟨_,_,h⟩
     ·omega
     ·exact hja _ _ _ h
    ·rcases hS1 j hs with h|h
     ·exact hjS h
     ·omega
    ·simp only[LV.asl.injEq]at he
     omega
end
theorem cP_um{f:FuncId}{args:List LV}{H:qa}{o:Nat}{es:List (LV×LV)}{kv kp:HP}(hl:look o H.objs=some (.map es))(h:cP E0 F0 f args (H.put o (.um es)) kv kp):cP E0 F0 f args H kv kp:=by
 intro hH
 have hC:qZ Tryz.prog E0 f args (H.put o (.um es)) (CSP kv kp):=qbD qds qcl (h (qn.put hH))
 exact .prim ⟨hC.1,fun G w us hI hE ha=>hC.2 G w us (hI.toUm hl (.refl _)) hE ha⟩
structure NNIn where
 i:Nat
 n:Nat
 xs:List Atom
 own:Own
 ob:List (Nat×qc)
def qgQ:qo:=match qdD.body with
 |.seq _ (.seq _ (.seq l _))=>l
 |_=>.bad
def qmJ:qo:=match qdD.body with
 |.seq _ (.seq _ (.seq _ r))=>r
 |_=>.bad
abbrev vO(c:qf)(fv:LV)(fo n:Nat)(xs:List Atom)(own:Own)(ob:List (Nat×qc)):List (Nat×qc):=(n+1+1+1,.cells [.sl (xs.map qd) own])::(n+1+1,.cells [fv])::(n+1,.cells (ww c))::(n,.cells [.ptr fo 0])::ob
theorem qtT{b:List Lit}{i:Nat}(h:i<b.length):qO (b.take (i+1))=qO (b.take i)++(if b[i].kind=1 then [b[i].atom] else []):=by
 unfold qO
 rw[List.take_add_one,List.getElem?_eq_getElem h,List.filter_append,List.map_append]
 congr 1
 by_cases hk:b[i].kind=1
 ·simp[hk]
 ·simp[hk]
theorem y9{a n m:Nat}{y:qc}{r:List (Nat×qc)}(hr:qn r a)(h:n<=m):HWk ⟨(a,y)::r,m⟩ ⟨r,m⟩:=by
 refine⟨Nat.le_refl _,fun i z hz=>?_⟩
 have:=hr.look hz
 rw[qe (by omega)]
 exact hz
theorem qrZ(c:qf)(hc:c.body.length<=2^20)(fv:LV)(fo n:Nat)(ob:List (Nat×qc))(hOb:qn ob n){KX:XP}
  (hk:∀ow ob1 m,zP ⟨vO c fv fo n (qO c.body) ow ob,n+1+1+1+1⟩ 2 (qO c.body).length ow ob1 m->KX .normal ((.nd .bot (.nd .bot (.nd (.ptr n 0) (.nd .bot (.nd (.sc (.bool false)) .nil .nil) .nil) .nil) (.nd (.ptr (n+1+1) 0) .nil (.nd (.int c.body.length) .nil .nil))) (.nd .bot (.nd (.ptr (n+1) 0) .nil (.nd (zG c.body) .nil .nil)) (.nd (.ptr (n+1+1+1) 0) .nil (.nd (.int c.body.length) .nil .nil))))) ⟨ob1,m⟩):
  lP E0 F0 qgQ ((.nd .bot (.nd .bot (.nd (.ptr n 0) .nil .nil) (.nd (.ptr (n+1+1) 0) .nil .nil)) (.nd .bot (.nd (.ptr (n+1) 0) .nil .nil) (.nd (.ptr (n+1+1+1) 0) .nil .nil)))) ⟨vO c fv fo n [] .full ob,n+1+1+1+1⟩ KX:=by
 refine zS ?_
 simp(disch:=omega)[qgQ,qdD]
 refine qy (σ:=NNIn) (fun q=>(.nd .bot (.nd .bot (.nd (.ptr n 0) .nil .nil) (.nd (.ptr (n+1+1) 0) .nil (.nd (.int c.body.length) .nil .nil))) (.nd .bot (.nd (.ptr (n+1) 0) .nil (.nd (zG c.body) .nil .nil)) (.nd (.ptr (n+1+1+1) 0) .nil (.nd (.int q.i) .nil .nil))))) (fun q=>⟨q.ob,q.n⟩) (fun q=>c.body.length - q.i)
  (fun q=>zP ⟨vO c fv fo n q.xs q.own ob,n+1+1+1+1⟩ 2 q.xs.length q.own q.ob q.n/\q.i<=c.body.length/\q.xs=qO (c.body.take q.i))
  ⟨0,n+1+1+1+1,[],.full,vO c fv fo n [] .full ob⟩ ⟨.inl ⟨rfl,rfl,Nat.le_refl _⟩,Nat.zero_le _,rfl⟩ (by simp[FT.Le,Wk]) ⟨HWk.refl _,fun h=>h⟩ ?_
 rintro⟨i,m,xs,own,ob1⟩ ⟨hr,hi,hxs⟩ hok
 dsimp only at hr hi hok hxs
 by_cases hlt:i<c.body.length
 case neg=>
  obtain rfl:i=c.body.length:=by omega
  rw[List.take_length]at hxs
  subst hxs
  simp(disch:=omega)
  exact hk _ _ _ hr
 have hB:∀(ys:List Atom)(ow:Own),qn (vO c fv fo n ys ow ob) (n+1+1+1+1):=fun ys ow=>⟨by omega,by omega,by omega,by omega,hOb⟩
 have hX:=wW xs
 obtain⟨X,hXe⟩:∃X,xs.map qd=X:=⟨_,rfl⟩
 have hXl:X.length=xs.length:=by rw[<-hXe,List.length_map]
 have htk:=qtT hlt
 have hxl:xs.length<=i:=by
  rw[hxs]
  unfold qO
  rw[List.length_map]
  exact Nat.le_trans (List.length_filter_le _ _) (by rw[List.length_take];omega)
 by_cases hk1:c.body[i].kind=1
 case neg=>
  rw[if_neg hk1,List.append_nil]at htk
  rcases hr with⟨rfl,rfl,h3⟩|⟨t,rfl,g1,g2,rfl⟩
  ·dsimp only at h3
   simp(disch:=omega)[hlt,hk1,qi (show i<2^62 by omega)]
   exact⟨⟨i+1,m+1,xs,.full,vO c fv fo n xs .full ob⟩,by dsimp only;omega,⟨.inl ⟨rfl,rfl,by dsimp only;omega⟩,by dsimp only;omega,by dsimp only;rw[htk];exact hxs⟩,by simp[FT.Le,Wk],y9 ((hB xs _).mono h3) (Nat.le_refl _),fun _=>(hB xs _).mono (by dsimp only;omega)⟩
  ·dsimp only at g1
   simp(disch:=omega)[hlt,hk1,qi (show i<2^62 by omega)]
   exact⟨⟨i+1,m+1,xs,.tok t,(t,.tok xs.length 2)::vO c fv fo n xs (.tok t) ob⟩,by dsimp only;omega,⟨.inr ⟨t,rfl,g1,by dsimp only;omega,rfl⟩,by dsimp only;omega,by dsimp only;rw[htk];exact hxs⟩,by simp[FT.Le,Wk],y9 (show qn _ m from hok) (Nat.le_refl _),fun _=>(show qn _ m from hok).mono (by dsimp only;omega)⟩
 rw[if_pos hk1]at htk
 have hnew:(xs++[c.body[i].atom]).map qd=X++[qd c.body[i].atom]:=by rw[<-hXe];simp
 have hxl2:(xs++[c.body[i].atom]).length=xs.length+1:=by simp
 rw[hXe]at hX
 rcases hr with⟨rfl,rfl,h3⟩|⟨t,rfl,g1,g2,rfl⟩
 ·dsimp only at h3
  simp(disch:=omega)[hlt,hk1]
  refine qU ?_
  simp(disch:=omega)[hXe]
  rw[qhE hX rfl (by rw[hXl];omega) (by omega)]
  simp(disch:=omega)[hXl,qi (show i<2^62 by omega)]
  refine⟨⟨i+1,m+1+1,xs++[c.body[i].atom],.tok (m+1),(m+1,.tok (xs.length+1) 2)::vO c fv fo n (xs++[c.body[i].atom]) (.tok (m+1)) ob⟩,by dsimp only;omega,⟨.inr ⟨m+1,rfl,by dsimp only;omega,Nat.lt_succ_self _,by dsimp only;rw[hxl2]⟩,by dsimp only;omega,by dsimp only;rw[htk,hxs]⟩,by simp[FT.Le,Wk],?_⟩
  dsimp only
  unfold vO
  rw[hnew]
  have hB2:=hB (xs++[c.body[i].atom]) (.tok (m+1))
  unfold vO at hB2
  rw[hnew]at hB2
  exact⟨qcJ (hB2.mono h3) fun _ _ h=>h,fun _=>⟨Nat.lt_succ_self _,hB2.mono (by omega)⟩⟩
 ·dsimp only at g1
  simp(disch:=omega)[hlt,hk1]
  refine qU ?_
  simp(disch:=omega)[hXe]
  rw[qhD hX rfl (by rw[hXl];omega) (by omega) (by omega) (by rw[qe (by omega),hXl];simp[look])]
  simp(disch:=omega)[hXl,qi (show i<2^62 by omega)]
  refine⟨⟨i+1,m+1,xs++[c.body[i].atom],.tok t,(t,.tok (xs.length+1) 2)::vO c fv fo n (xs++[c.body[i].atom]) (.tok t) ob⟩,by dsimp only;omega,⟨.inr ⟨t,rfl,g1,by dsimp only;omega,by dsimp only;rw[hxl2]⟩,by dsimp only;omega,by dsimp only;rw[htk,hxs]⟩,by simp[FT.Le,Wk],?_⟩
  dsimp only
  unfold vO
  rw[hnew]
  have hB2:=hB (xs++[c.body[i].atom]) (.tok t)
  unfold vO at hB2
  rw[hnew]at hB2
  have hOk3:qn ((t,qc.tok (xs.length+1) 2)::(n+1+1+1,qc.cells [.sl (X++[qd c.body[i].atom]) (.tok t)])::(n+1+1,.cells [fv])::(n+1,.cells (ww c))::(n,.cells [.ptr fo 0])::ob) m:=⟨g2,hB2.mono g1⟩
  exact⟨y9 hOk3 (Nat.le_refl _),fun _=>hOk3.mono (by dsimp only;omega)⟩
theorem qxJ:qdD.body=.seq (.ops [D 3 (.bx (T 0)),D 4 (.bx (T 1)),D 5 (.bx (T 2))]) (.seq (.ops [D 6 (.al [Nl])]) (.seq qgQ qmJ)):=rfl
section
variable{σ:Type}{D:qeD σ}
theorem qsj(c:qf)(hc:zQ c)(F:List Stp)(fo am:Nat)(ownF:Own)(L:List (Nat×qc))(hDL:∀p∈D.Stat,p∈L)(hpl:∀p∈L,qcF p.2=true)(hF:∀ob,wb L ob->uh ob fo am F ownF)
  (hFg:∀s∈F,qI s.atom) (hFl:F.length<=2^20) (ob:List (Nat×qc)) (n:Nat) (G:σ) (S:Nat->Prop) (hlim:D.lim G) (hst:wb L ob) (hat:D.At ob G S) (hsep:∀p∈L,¬S p.1) (hni:qQ ob) {kv kp:HP}
  (hk:∀ob' n' S',n<=n'->D.At ob' (vW D.step c (vU F c (qO c.body) [] []) G) S'->(∀i,S' i->S i\/n<=i)->qQ ob'->(∀i,i<n->¬S i->look i ob'=look i ob)->kv (.tup []) ⟨ob',n'⟩):
  cP E0 F0 153 [.ptr fo 0,uH c,.fn (.func D.fn) [] D.cap] ⟨ob,n⟩ kv kp:=by
 refine qdA c153 (Nat.le_of_ble_eq_true rfl) fun hH=>?_
 rw[qxJ]
 simp(disch:=omega)
 refine g9 (zS ?_)
 simp(disch:=omega)
 refine g9 (zS ?_)
 simp(disch:=omega)
 refine g9 ?_
 refine vh (t':=(.nd .bot (.nd .bot (.nd (.ptr n 0) .nil .nil) (.nd (.ptr (n+1+1) 0) .nil .nil)) (.nd .bot (.nd (.ptr (n+1) 0) .nil .nil) (.nd (.ptr (n+1+1+1) 0) .nil .nil)))) (fun l h=>by unfold qgQ at h;simp[qdD]at h) (by simp[FT.Le,Wk]) (HWk.refl _) (fun h=>h) ?_
 obtain⟨cp1,cp2,cp3⟩:=wT hc.ok
 refine qrZ c (by omega) (.fn (.func D.fn) [] D.cap) fo n ob hH fun ow ob1 m hr=>?_
 obtain⟨hm,q3,q2,q1,q0,hold,hni1⟩:n+1+1+1+1<=m/\look (n+1+1+1) ob1=some (.cells [.sl ((qO c.body).map qd) ow])/\look (n+1+1) ob1=some (.cells [.fn (.func D.fn) [] D.cap])/\look (n+1) ob1=some (.cells (ww c))/\look n ob1=some (.cells [.ptr fo 0])/\(∀i,i<n->look i ob1=look i ob)/\qQ ob1:=by
  have base:∀xs ow,look (n+1+1+1) (vO c (.fn (.func D.fn) [] D.cap) fo n xs ow ob)=some (.cells [.sl (xs.map qd) ow])/\look (n+1+1) (vO c (.fn (.func D.fn) [] D.cap) fo n xs ow ob)=some (.cells [.fn (.func D.fn) [] D.cap])/\look (n+1) (vO c (.fn (.func D.fn) [] D.cap) fo n xs ow ob)=some (.cells (ww c))/\look n (vO c (.fn (.func D.fn) [] D.cap) fo n xs ow ob)=some (.cells [.ptr fo 0])/\(∀i,i<n->look i (vO c (.fn (.func D.fn) [] D.cap) fo n xs ow ob)=look i ob)/\qQ (vO c (.fn (.func D.fn) [] D.cap) fo n xs ow ob):=by
   intro xs ow
   refine⟨qp _ _ _,by rw[qe (by omega)];exact qp _ _ _,by rw[qe (by omega),qe (by omega)];exact qp _ _ _,by rw[qe (by omega),qe (by omega),qe (by omega)];exact qp _ _ _,fun i hi=>?_,(((hni.cons _ rfl).cons _ rfl).cons _ rfl).cons _ rfl⟩
   rw[qe (by omega),qe (by omega),qe (by omega),qe (by omega)]
  rcases hr with⟨rfl,rfl,h3⟩|⟨t,rfl,g1,g2,rfl⟩
  ·exact⟨h3,base _ _⟩
  ·dsimp only at g1
   obtain⟨a1,a2,a3,a4,a5,a6⟩:=base (qO c.body) (.tok t)
   exact⟨by omega,by rw[qe (by omega)];exact a1,by rw[qe (by omega)];exact a2,by rw[qe (by omega)];exact a3,by rw[qe (by omega)];exact a4,fun i hi=>by rw[qe (by omega)];exact a5 i hi,a6.cons _ rfl⟩
 refine zS ?_
 simp(disch:=omega)[qmJ,qdD]
 refine cP_um (o:=m+1+1) (es:=[]) (qp _ _ _) ?_
 rw[uC]
 obtain⟨cl,hcle⟩:∃cl:LV,LV.fn (.func 192) [] [.ptr m 0,.ptr (n+1+1+1) 0,.ptr n 0,.ptr (m+1) 0,.ptr (n+1) 0,.ptr (n+1+1) 0]=cl:=⟨_,rfl⟩
 obtain⟨obE,hobE⟩:∃obE,(m+1+1,qc.um [])::(m+1,qc.cells [cl])::(m,qc.cells [Nl])::ob1=obE:=⟨_,rfl⟩
 rw[hcle,hobE]
 have hE:∀i,i<m->look i obE=look i ob1:=fun i hi=>by rw[<-hobE,qe (by omega),qe (by omega),qe (by omega)]
 have hlow:∀p∈L,p.1<n:=fun p hp=>hH.look (hst p hp)
 have hSlow:∀i,S i->i<n:=fun i hi=>by
  obtain⟨x,hx,_⟩:=D.at_look _ _ _ _ hat hi
  exact hH.look hx
 have hC:ChOk D ⟨c,F,fo,am,ownF,ow,m,n+1+1+1,n,m+1,n+1,n+1+1,(n+1+1+1,.cells [.sl ((qO c.body).map qd) ow])::(n,.cells [.ptr fo 0])::(m+1,.cells [cl])::(n+1,.cells (ww c))::(n+1+1,.cells [.fn (.func D.fn) [] D.cap])::L⟩:=by
  refine⟨hc,fun p hp=>?_,?_,fun ob h=>hF ob fun p hp=>h p ?_,hFg,hFl,?_,?_,?_,?_,?_,?_⟩
  ·simp only[List.mem_cons]
   exact .inr (.inr (.inr (.inr (.inr (hDL p hp)))))
  ·simp only[List.forall_mem_cons]
   exact⟨rfl,rfl,rfl,rfl,rfl,hpl⟩
  ·simp only[List.mem_cons]
   exact .inr (.inr (.inr (.inr (.inr hp))))
  ·simp only[List.forall_mem_cons]
   exact⟨by omega,by omega,by omega,by omega,by omega,fun p hp=>by have:=hlow p hp;omega⟩
  all_goals first|exact List.mem_cons_self|(rw[<-hcle];simp)|simp
 refine qlB hC (qO c.body) [] [] [] G rfl rfl .nil (fun p hp=>by cases hp) hlim obE (m+1+1+1) S Nl (m+1+1) ⟨?_,?_,?_,?_,fun h=>?_,.inl ⟨rfl,rfl⟩,?_⟩ (by rw[<-hobE];exact qp _ _ _) fun ob2 n2 S2 fv2 hn2 h2 hS2 _ hkept=>?_
 ·simp only[wb,List.forall_mem_cons]
  refine⟨by rw[hE _ (by omega)];exact q3,by rw[hE _ (by omega)];exact q0,by rw[<-hobE,qe (by omega)];exact qp _ _ _,by rw[hE _ (by omega)];exact q1,by rw[hE _ (by omega)];exact q2,fun p hp=>?_⟩
  have:=hlow p hp
  rw[hE _ (by omega),hold _ this]
  exact hst p hp
 ·exact D.at_keep _ _ _ _ hat fun i hi=>by
   have:=hSlow i hi
   rw[hE _ (by omega),hold _ this]
 ·simp only[List.forall_mem_cons]
  exact⟨fun h=>by have:=hSlow _ h;omega,fun h=>by have:=hSlow _ h;omega,fun h=>by have:=hSlow _ h;omega,fun h=>by have:=hSlow _ h;omega,fun h=>by have:=hSlow _ h;omega,hsep⟩
 ·rw[<-hobE]
  show look m _=_
  rw[qe (by omega),qe (by omega)]
  exact qp _ _ _
 ·have:=hSlow _ h
  dsimp only at this
  omega
 ·rw[<-hobE]
  exact((hni1.cons _ rfl).cons _ rfl).cons _ rfl
 ·simp(disch:=omega)[zh]
  refine⟨_,HWk.refl _,fun h=>h,hk ob2 n2 S2 (by omega) h2.at_ (fun i hi=>(hS2 i hi).imp id fun h=>by omega) h2.ni fun i hi hiS=>?_⟩
  rw[hkept i (by omega) hiS (by dsimp only;omega) (fun a o l he=>by cases he),hE _ (by omega),hold _ hi]
end
theorem qlp(a b:Atom)(ha:a.ok)(hb:b.ok):qg 14 [qd a,qd b] (.bool (decide (cmpA a b=0))):=by
 refine qg.of c14 fun H hH=>⟨Nat.le_of_ble_eq_true rfl,?_⟩
 simp(disch:=omega)[b14]
 refine(qhZ a b ha hb).go fun n hn=>?_
 simp(disch:=omega)
 exact qh hH (by first|rfl|simp[])
def ws(l:List Atom)(a:Atom):Bool:=l.any fun x=>decide (cmpA x a=0)
theorem qhV(l:List Atom)(ow:Own)(a:Atom)(hl:l.length<2^40)(hlo:∀x∈l,Atom.ok x)(ha:a.ok):qg 139 [.sl (l.map qd) ow,qd a] (.bool (ws l a)):=by
 refine qg.of c139 fun H hH=>⟨Nat.le_of_ble_eq_true rfl,?_⟩
 simp(disch:=omega)[b139]
 obtain⟨A,hA⟩:∃A,ws l a=A:=⟨_,rfl⟩
 rw[hA]
 refine qy (σ:=NN) (fun q=>(.nd (.sl (l.map qd) ow) (.nd .bot (.nd (.ptr H.next 0) .nil .nil) (.nd (.int q.i) .nil .nil)) .nil)) (fun q=>⟨(H.next,.cells [.str a.pred,qk a.args])::H.objs,q.n⟩) (fun q=>l.length - q.i)
  (fun q=>H.next+1<=q.n/\q.i<=l.length/\(l.drop q.i).any (fun x=>decide (cmpA x a=0))=A) ⟨0,H.next+1⟩ ⟨by dsimp only;omega,Nat.zero_le _,hA⟩ (by simp[FT.Le,Wk]) ⟨HWk.refl _,fun h=>h⟩ ?_
 rintro⟨i,n⟩ ⟨hn,hi,he⟩ hok
 simp only at hn hi he
 by_cases hlt:i<l.length
 case neg=>
  obtain rfl:i=l.length:=by omega
  rw[List.drop_eq_nil_of_le (Nat.le_refl _),List.any_nil]at he
  simp(disch:=omega)
  exact qh hH (by first|rfl|simp[<-he])
 rw[qhF _ hlt]at he
 simp(disch:=omega)[hlt]
 refine(qlp l[i] a (hlo _ (ub hlt)) ha).go fun n1 hn1=>?_
 by_cases hq:cmpA l[i] a=0
 ·have hq2:decide (cmpA l[i] a=0)=true:=by simp[hq]
  rw[hq2,Bool.true_or]at he
  simp(disch:=omega)[hq2]
  exact qh hH (by first|rfl|simp[<-he])
 ·have hq2:decide (cmpA l[i] a=0)=false:=by simp[hq]
  rw[hq2,Bool.false_or]at he
  simp(disch:=omega)[hq2,qi (show i<2^62 by omega)]
  exact⟨⟨i+1,n1⟩,by dsimp only;omega,⟨by dsimp only;omega,by dsimp only;omega,he⟩,by simp[FT.Le,Wk],HWk.refl _,fun h=>h⟩
theorem qrR(K:qq)(ow:Own)(hKl:K.length<=2^20)(x:Lit)(hb:yY K [x.a,x.b]):qg 212 [.sl (K.map wt) ow,qfp x] (.bool (qaV K x)):=by
 refine qg.of c212 fun H hH=>⟨Nat.le_of_ble_eq_true rfl,?_⟩
 have p1:=qhT K ow hKl x.a (hb _ (by simp))
 have p2:=qhT K ow hKl x.b (hb _ (by simp))
 simp(disch:=omega)[b212]
 refine p1.go fun n hn=>?_
 simp(disch:=omega)
 refine p2.go fun n2 hn2=>?_
 obtain⟨P,hP⟩:∃P,za K x.a=P:=⟨_,rfl⟩
 obtain⟨Q,hQ⟩:∃Q,za K x.b=Q:=⟨_,rfl⟩
 have hcl:qaV K x=if x.kind=3 then eqT P Q else if x.kind=4 then !eqT P Q else if x.kind=5 then qaa P&&qaa Q&&decide (P.n<Q.n) else qaa P&&qaa Q&&decide (P.n<=Q.n):=by rw[<-hP,<-hQ];rfl
 rw[hP,hQ,hcl]
 simp(disch:=omega)
 rcases Classical.em (P.kind=1) with p1|p1<;>rcases Classical.em (Q.kind=1) with q1|q1<;>rcases Classical.em (x.kind=3) with k3|k3<;>rcases Classical.em (x.kind=4) with k4|k4<;>rcases Classical.em (x.kind=5) with k5|k5<;>(try (exfalso;omega))
 all_goals (simp(disch:=omega)[p1,q1,k3,k4,k5])
 all_goals (exact qh hH (by simp[k3,k4,k5,qaa,eqT,p1,q1]))
def qbj(l:List Atom)(K:qq):List Lit->Bool
 |[]=>true
 |x::r=>if x.kind=1 then qbj l K r else if x.kind=2 then !ws l (q9 K x.atom)&&qbj l K r else qaV K x&&qbj l K r
theorem qrE(c:qf)(hc:zQ c)(K:qq)(hK:uA K)(ow:Own)(hKl:K.length<=2^20)(hp:∀p∈qO c.body,yY K p.args)(l:List Atom)(owl:Own)(hl:l.length<2^40)(hlo:∀x∈l,Atom.ok x)(H:qa){kv kp:HP}
  (hk:∀n,H.next<=n->kv (.bool (qbj l K c.body)) ⟨H.objs,n⟩):
  cP E0 F0 184 [uH c,.sl (K.map wt) ow,.sl (l.map qd) owl] H kv kp:=by
 refine ur c184 fun hH=>⟨Nat.le_of_ble_eq_true rfl,?_⟩
 obtain⟨b1,b2,b3⟩:=hc.bound hp
 obtain⟨g1,g2⟩:=hc.leaf hK hp
 obtain⟨cp1,cp2,cp3⟩:=wT hc.ok
 obtain⟨N,hN⟩:∃N,H.next=N:=⟨_,rfl⟩
 obtain⟨ob,nx⟩:=H
 dsimp only at hN hk
 subst hN
 obtain⟨A,hA⟩:∃A,qbj l K c.body=A:=⟨_,rfl⟩
 rw[hA]at hk
 simp(disch:=omega)[b184]
 refine qy (σ:=NN) (fun q=>(.nd .bot (.nd (.sl (K.map wt) ow) (.nd (.ptr nx 0) (.nd (.int q.i) .nil .nil) .nil) .nil) (.nd (.sl (l.map qd) owl) .nil .nil))) (fun q=>⟨(nx,.cells [.str c.head.pred,qk c.head.args,zG c.body])::ob,q.n⟩) (fun q=>c.body.length - q.i)
  (fun q=>nx+1<=q.n/\q.i<=c.body.length/\qbj l K (c.body.drop q.i)=A) ⟨0,nx+1⟩ ⟨by dsimp only;omega,Nat.zero_le _,hA⟩ (by simp[FT.Le,Wk]) ⟨HWk.refl _,fun h=>h⟩ ?_
 rintro⟨i,n⟩ ⟨hn,hi,he⟩ hok
 simp only at hn hi he
 have hOb:qn ((nx,qc.cells [.str c.head.pred,qk c.head.args,zG c.body])::ob) n:=hok
 have fin0:∀(m:Nat),n<=m->∃H'',HWk ⟨(nx,qc.cells [.str c.head.pred,qk c.head.args,zG c.body])::ob,m⟩ H''/\(qa.Ok ⟨(nx,qc.cells [.str c.head.pred,qk c.head.args,zG c.body])::ob,m⟩->H''.Ok)/\kv (.bool A) H'':=fun m hm=>⟨⟨ob,m⟩,y9 hH (Nat.le_refl _),fun _=>qn.mono hH (by dsimp only;omega),hk m (by omega)⟩
 have fin1:∀(m:Nat)(x:qc),n<=m->∃H'',HWk ⟨(n,x)::(nx,qc.cells [.str c.head.pred,qk c.head.args,zG c.body])::ob,m⟩ H''/\(qa.Ok ⟨(n,x)::(nx,qc.cells [.str c.head.pred,qk c.head.args,zG c.body])::ob,m⟩->H''.Ok)/\kv (.bool A) H'':=fun m x hm=>⟨⟨ob,m⟩,⟨Nat.le_refl _,fun j y hy=>by
   have:=hH.look hy
   dsimp only at this
   rw[qe (by omega),qe (by omega)];exact hy⟩,fun _=>qn.mono hH (by dsimp only;omega),hk m (by omega)⟩
 by_cases hlt:i<c.body.length
 case neg=>
  obtain rfl:i=c.body.length:=by omega
  rw[List.drop_eq_nil_of_le (Nat.le_refl _)]at he
  have hA2:A=true:=he.symm
  subst hA2
  simp(disch:=omega)
  exact fin0 n (Nat.le_refl _)
 rw[List.drop_eq_getElem_cons hlt]at he
 simp only[qbj]at he
 have hmem:=ub hlt
 by_cases k1:c.body[i].kind=1
 ·rw[if_pos k1]at he
  simp(disch:=omega)[hlt,k1,qi (show i<2^62 by omega)]
  exact⟨⟨i+1,n+1⟩,by dsimp only;omega,⟨by dsimp only;omega,by dsimp only;omega,he⟩,by simp[FT.Le,Wk],y9 hOb (Nat.le_refl _),fun _=>hOb.mono (by first|omega|(dsimp only;omega))⟩
 rw[if_neg k1]at he
 by_cases k2:c.body[i].kind=2
 ·rw[if_pos k2]at he
  have hal:=qgS (cp3 _ hmem)
  simp(disch:=omega)[hlt,k1,k2]
  refine qli K ow hKl c.body[i].atom (by omega) (b2 _ hmem k2) _ fun n1 hn1=>?_
  dsimp only at hn1
  simp(disch:=omega)
  refine(qhV l owl _ hl hlo (wX (g1 _ hmem k2).1)).go fun n2 hn2=>?_
  cases hh:ws l (q9 K c.body[i].atom)
  ·rw[hh]at he
   simp(disch:=omega)[qi (show i<2^62 by omega)]
   exact⟨⟨i+1,n2⟩,by dsimp only;omega,⟨by dsimp only;omega,by dsimp only;omega,by simpa using he⟩,by simp[FT.Le,Wk],y9 hOb (Nat.le_refl _),fun _=>hOb.mono (by first|omega|(dsimp only;omega))⟩
  ·rw[hh]at he
   have hA2:A=false:=by simpa using he.symm
   subst hA2
   simp(disch:=omega)
   exact fin1 n2 _ (by omega)
 rw[if_neg k2]at he
 simp(disch:=omega)[hlt,k1,k2]
 refine(qrR K ow hKl c.body[i] (b3 _ hmem k1 k2)).go fun n2 hn2=>?_
 cases hh:qaV K c.body[i]
 ·rw[hh]at he
  have hA2:A=false:=by simpa using he.symm
  subst hA2
  simp(disch:=omega)
  exact fin1 n2 _ (by omega)
 ·rw[hh]at he
  simp(disch:=omega)[qi (show i<2^62 by omega)]
  exact⟨⟨i+1,n2⟩,by dsimp only;omega,⟨by dsimp only;omega,by dsimp only;omega,by simpa using he⟩,by simp[FT.Le,Wk],y9 hOb (Nat.le_refl _),fun _=>hOb.mono (by first|omega|(dsimp only;omega))⟩
end Go.Abs.Tz
