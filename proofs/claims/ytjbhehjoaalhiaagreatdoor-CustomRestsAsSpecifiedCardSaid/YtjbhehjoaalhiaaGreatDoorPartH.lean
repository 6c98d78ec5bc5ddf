/- Part of the proof that the law CustomRestsAsSpecified holds. Conditions: none. -/
import Derived.Test.YtjbhehjoaalhiaaGreatDoorPartG
import Derived.Test.YtjbhehjoaalhiaaGreatDoorPartD
set_option linter.unusedVariables false
set_option linter.unusedSimpArgs false
set_option linter.unusedSectionVars false
namespace Go.Abs.Tz
open Go Go.Abs Go.Proofs
abbrev PK:=ByteArray×Int
abbrev uz(k:PK):LV:=.agg [.str k.1,.int k.2]
abbrev qT(m:List (PK×Int)):List (LV×LV):=m.map fun e=>(uz e.1,LV.int e.2)
def vx(a b:PK):Bool:=eqBA a.1 b.1&&decide (a.2=b.2)
theorem vw{a b:PK}:vx a b=true↔a=b:=by
 obtain⟨p,n⟩:=a
 obtain⟨q,m⟩:=b
 have h:eqBA p q=true↔p=q:=by
  constructor
  ·intro h
   unfold eqBA at h
   rw[ByteArray.toList_eq,ByteArray.toList_eq]at h
   have h1:=eq_of_beq h
   obtain⟨⟨x⟩⟩:=p
   obtain⟨⟨y⟩⟩:=q
   simp at h1
   rw[h1]
  ·rintro rfl;simp[eqBA]
 simp[vx,h]
theorem qeq(a b:PK):eqK (.st [1,0]) (uz a) (uz b)=some (vx a b):=by
 simp[eqK,eqL,zo,uO,vx]
def ze(k:PK)(v:Int):List (PK×Int)->List (PK×Int)
 |[]=>[(k,v)]
 |(j,u)::r=>if vx k j then (j,v)::r else (j,u)::ze k v r
def vD(k:PK):List (PK×Int)->Option Int
 |[]=>none
 |(j,u)::r=>if vx k j then some u else vD k r
theorem qmb(k:PK)(v:Int):∀m:List (PK×Int),wg (.st [1,0]) (uz k) (LV.int v) (qT m)=some (qT (ze k v m))
 |[]=>rfl
 |(j,u)::r=>by
  have ih:=qmb k v r
  show (match eqK (.st [1,0]) (uz k) (uz j) with
   |some true=>some ((uz j,LV.int v)::qT r)
   |some false=>(wg (.st [1,0]) (uz k) (LV.int v) (qT r)).map ((uz j,LV.int u)::·)
   |none=>none)=_
  rw[qeq]
  cases h:vx k j
  ·simp only[ih,ze,h];rfl
  ·simp only[ze,h];rfl
theorem qoS(k:PK):∀m:List (PK×Int),vM (.st [1,0]) (uz k) (qT m)=some ((vD k m).map LV.int)
 |[]=>rfl
 |(j,u)::r=>by
  have ih:=qoS k r
  show (match eqK (.st [1,0]) (uz k) (uz j) with
   |some true=>some (some (LV.int u))
   |some false=>vM (.st [1,0]) (uz k) (qT r)
   |none=>none)=_
  rw[qeq]
  cases h:vx k j
  ·simp only[ih,vD,h];rfl
  ·simp only[vD,h];rfl
def qu(m:List (PK×Int)):List PK:=m.map (·.1)
def qm(m:List (PK×Int))(k:PK):Int:=(vD k m).getD 0
theorem qnf(k j:PK)(v:Int):∀m:List (PK×Int),vD j (ze k v m)=if j=k then some v else vD j m
 |[]=>by
  simp only[ze,vD]
  by_cases h:j=k
  ·rw[if_pos (vw.2 h),if_pos h]
  ·rw[if_neg (fun e=>h (vw.1 e)),if_neg h]
 |(i,u)::r=>by
  have ih:=qnf k j v r
  simp only[ze]
  by_cases hk:vx k i=true
  ·rw[if_pos hk]
   obtain rfl:=vw.1 hk
   simp only[vD]
   by_cases hj:j=k
   ·rw[if_pos (vw.2 hj),if_pos hj]
   ·rw[if_neg (fun e=>hj (vw.1 e)),if_neg hj,if_neg (fun e=>hj (vw.1 e))]
  ·rw[if_neg hk]
   simp only[vD]
   by_cases hj:vx j i=true
   ·rw[if_pos hj,if_pos hj]
    obtain rfl:=vw.1 hj
    rw[if_neg (fun e=>hk (vw.2 e.symm))]
   ·rw[if_neg hj,if_neg hj,ih]
theorem qkr{k:PK}{l:List PK}:l.any (vx k)=true↔k∈l:=by
 rw[List.any_eq_true]
 constructor
 ·rintro⟨x,h1,h2⟩;rw[vw.1 h2];exact h1
 ·intro h;exact⟨k,h,vw.2 rfl⟩
theorem qdW(k:PK)(v:Int):∀m:List (PK×Int),qu (ze k v m)=if (qu m).any (vx k) then qu m else qu m++[k]
 |[]=>by simp[ze,qu]
 |(i,u)::r=>by
  have ih:=qdW k v r
  simp only[ze]
  have e2:qu ((i,u)::r)=i::qu r:=rfl
  by_cases hk:vx k i=true
  ·rw[if_pos hk,e2,List.any_cons,hk,Bool.true_or,if_pos rfl]
   rfl
  ·rw[if_neg hk]
   have hf:vx k i=false:=by simpa using hk
   have e1:qu ((i,u)::ze k v r)=i::qu (ze k v r):=rfl
   rw[e1,e2,ih,List.any_cons,hf,Bool.false_or]
   split<;>rfl
end Go.Abs.Tz
namespace Go.Abs.Tz
open Go Go.Abs Go.Proofs
set_option maxRecDepth 20000
set_option linter.unusedSimpArgs false
attribute [local simp ↓] yb ya jv ju gI ut zg zB jr up yP yQ yc ye yf yd jA jD jG jB jH jI jE jF jC jy jw jz jx yN yL yO yM g7 gZ g8 g6 yk yh yj uu zx jL zh z7 gL yS yT yo yq yp ym yn yz jO jT jW jS jU jV gy gx j5 j7 jb uZ jm jp u9 jh jl jk jj ji jf uV uW uX uY jn jd je uT jo jq ja jc jg uU gb j6 gu gC j8 gj gt gq gp gk gh j0 gw gf gg jX gA gD j9 gd gi jY gG gz jZ gF ge ga gc j3 gv jP jR jQ yu yx yt yv yw qp uL
attribute [local simp] faL fdL iaL ixL qL zb qV eqK eqL qR zo uO yr yK yA yC yE yG yI yJ yB yF yD yH zC LV.cells LV.whole qp uC uw jM stL zF zR uq qa.alloc gJ gH gK gY gW gV gU gT gS gQ gO gN gM qe ux
def ofA(a:Atom):PK:=(a.pred,a.args.length)
def wB(m:List (PK×Int))(x:Lit):List (PK×Int):=if decide (x.kind=1)||decide (x.kind=2) then ze (ofA x.atom) 0 m else m
def y8(m:List (PK×Int))(c:qf):List (PK×Int):=c.body.foldl wB (ze (ofA c.head) 0 m)
theorem muP{o:Nat}{m:List (PK×Int)}{ob:List (Nat×qc)}{nx:Nat}(hl:look o ob=some (.map (qT m)))(k:PK)(v:Int):
  muL ⟨ob,nx⟩ (.st [1,0]) (.map o) (uz k) (LV.int v)=some ⟨qx o (.map (qT (ze k v m))) ob,nx⟩:=by
 have hs:eqK (.st [1,0]) (uz k) (uz k)=some true:=by rw[qeq,vw.2 rfl]
 have h2:=qmb k v m
 simp only[muL,hl]
 rw[hs,h2]
 rfl
structure NNP where
 i:Nat
 n:Nat
 m:List (PK×Int)
def i77:qo:=match b85.body with
 |.seq _ (.seq _ (.seq x _))=>x
 |_=>.bad
theorem qsm(l:List qf)(hl:l.length<2^40)(hb:∀c∈l,c.body.length<2^40)(o:Nat)(m0:List (PK×Int))(ob:List (Nat×qc))(nx:Nat)(ho:look o ob=some (.map (qT m0))):
  lP E0 F0 i77 (.nd (qt l) (.nd .bot (.nd (.bool false) .nil .nil) .nil) (.nd (.sc (.map none)) (.nd (.map o) .nil .nil) .nil)) ⟨ob,nx⟩ (fun e t' H'=>e=.normal/\FT.Le (.nd (qt l) (.nd .bot (.nd (.bool false) .nil .nil) .nil) (.nd (.sc (.map none)) (.nd (.map o) .nil .nil) .nil)) t'/\∃n,nx<=n/\HWk H' ⟨qx o (.map (qT (l.foldl y8 m0))) ob,n⟩/\(H'.Ok->qa.Ok ⟨qx o (.map (qT (l.foldl y8 m0))) ob,n⟩)):=by
 refine zS ?_
 simp(disch:=omega)[i77,b85]
 obtain⟨R,hR⟩:∃R,l.foldl y8 m0=R:=⟨_,rfl⟩
 rw[hR]
 refine qy (σ:=NNP) (fun q=>(.nd (qt l) (.nd .bot (.nd (.bool false) .nil (.nd .bot (.nd (.int q.i) .nil .nil) .nil)) (.nd .bot (.nd .bot (.nd (qt l) .nil .nil) .nil) .nil)) (.nd (.sc (.map none)) (.nd (.map o) .nil .nil) (.nd .bot (.nd .bot (.nd (.int l.length) .nil .nil) .nil) .nil)))) (fun q=>⟨qx o (.map (qT q.m)) ob,q.n⟩) (fun q=>l.length - q.i)
  (fun q=>nx<=q.n/\q.i<=l.length/\(l.drop q.i).foldl y8 q.m=R) ⟨0,nx,m0⟩ ⟨Nat.le_refl _,Nat.zero_le _,hR⟩ (by simp[FT.Le,Wk]) ?_ ?_
 ·dsimp only;rw[qgy ho];exact⟨HWk.refl _,fun h=>h⟩
 rintro⟨i,n,m⟩ ⟨hn,hi,he⟩ hok
 dsimp only at hn hi he hok
 by_cases hlt:i<l.length
 case neg=>
  rw[List.drop_eq_nil_of_le (by omega)]at he
  simp only[List.foldl_nil]at he
  subst he
  simp(disch:=omega)[hlt]
  exact⟨by simp[FT.Le,Wk],n,hn,HWk.refl _,fun h=>h⟩
 rw[List.drop_eq_getElem_cons hlt,List.foldl_cons]at he
 have hon:o<n:=by
  have h2:qa.Ok ⟨qx o (.map (qT m)) ob,n⟩:=hok
  exact h2.look (vI ho)
 have hself:∀k:PK,eqK (.st [1,0]) (uz k) (uz k)=some true:=fun k=>by rw[qeq,vw.2 rfl]
 simp(disch:=omega)[hlt]
 refine(qcx l[i].head).go fun n1 h1=>?_
 simp(disch:=omega)
 have hmu:=muP (nx:=n1) (ob:=(n,.cells [.str l[i].head.pred,qk l[i].head.args,zG l[i].body])::qx o (.map (qT m)) ob) (o:=o) (m:=m) (by rw[qe (by omega)];exact vI ho) (ofA l[i].head) 0
 rw[show muL ⟨(n,.cells [.str l[i].head.pred,qk l[i].head.args,zG l[i].body])::qx o (.map (qT m)) ob,n1⟩ (.st [1,0]) (.map o) (.agg [.str l[i].head.pred,.int l[i].head.args.length]) (Z 0)=_ from hmu]
 simp(disch:=omega)[qcd]
 have hHe:∀m':List (PK×Int),qa.Ok ⟨qx o (.map (qT m')) ob,n⟩:=fun m'=>by
  have:=qn.put (i:=o) (o:=.map (qT m')) (show qn (qx o (.map (qT m)) ob) n from hok)
  rwa [qcd]at this
 obtain⟨W,hW⟩:∃W,y8 m l[i]=W:=⟨_,rfl⟩
 rw[hW]at he
 have hbl:=hb _ (ub hlt)
 refine qy (σ:=NNP) (fun q=>(.nd (qt l) (.nd .bot (.nd (.bool false) .nil (.nd .bot (.nd (.int i) .nil .nil) .nil)) (.nd .bot (.nd .bot (.nd (qt l) .nil .nil) .nil) (.nd .bot .nil (.nd (.int l[i].body.length) .nil .nil)))) (.nd (.sc (.map none)) (.nd (.map o) .nil (.nd .bot .nil (.nd (zG l[i].body) .nil .nil))) (.nd .bot (.nd .bot (.nd (.int l.length) .nil .nil) .nil) (.nd .bot .nil (.nd (.int q.i) .nil .nil)))))) (fun q=>⟨qx o (.map (qT q.m)) ob,q.n⟩) (fun q=>l[i].body.length - q.i)
  (fun q=>n<=q.n/\q.i<=l[i].body.length/\(l[i].body.drop q.i).foldl wB q.m=W) ⟨0,n1,ze (ofA l[i].head) 0 m⟩ ⟨by dsimp only;omega,Nat.zero_le _,hW⟩ (by simp[FT.Le,Wk]) (zK (hHe _) (by first|exact ql.refl' _|(repeat (first|exact ql.refl (by first|omega|(dsimp only;omega))|refine ql.cons' (hHe _) (by first|omega|(dsimp only;omega)) (by first|omega|(dsimp only;omega)) ?_)))) ?_
 rintro⟨j,n2,m2⟩ ⟨hn2,hj,he2⟩ hok2
 dsimp only at hn2 hj he2 hok2
 by_cases hlt2:j<l[i].body.length
 case neg=>
  rw[List.drop_eq_nil_of_le (by omega)]at he2
  simp only[List.foldl_nil]at he2
  subst he2
  simp(disch:=omega)[hlt2,qi (show i<2^62 by omega)]
  exact⟨⟨i+1,n2,m2⟩,by dsimp only;omega,⟨by dsimp only;omega,by dsimp only;omega,he⟩,by simp[FT.Le,Wk],HWk.refl _,fun h=>h⟩
 rw[List.drop_eq_getElem_cons hlt2,List.foldl_cons]at he2
 have step:∀k:Int,l[i].body[j].kind=k->k=1\/k=2->(l[i].body.drop (j+1)).foldl wB (ze (ofA l[i].body[j].atom) 0 m2)=W:=by
  intro k hk h12
  rw[<-he2]
  congr 1
  unfold wB
  rcases h12 with rfl|rfl<;>simp[hk]
 by_cases h12:l[i].body[j].kind=1\/l[i].body[j].kind=2
 ·rcases h12 with hk|hk
  all_goals
   simp(disch:=omega)[hlt2,hk]
   refine(qcx l[i].body[j].atom).go fun n3 h3=>?_
   simp(disch:=omega)
   have hmu:∀x:qc,muL ⟨(n2,x)::qx o (.map (qT m2)) ob,n3⟩ (.st [1,0]) (.map o) (.agg [.str l[i].body[j].atom.pred,.int l[i].body[j].atom.args.length]) (Z 0)=some ⟨qx o (.map (qT (ze (ofA l[i].body[j].atom) 0 m2))) ((n2,x)::qx o (.map (qT m2)) ob),n3⟩:=
    fun x=>muP (by rw[qe (by omega)];exact vI ho) (ofA l[i].body[j].atom) 0
   rw[hmu]
   simp(disch:=omega)[qcd,qi (show j<2^62 by omega)]
   exact⟨⟨j+1,n3,ze (ofA l[i].body[j].atom) 0 m2⟩,by dsimp only;omega,⟨by dsimp only;omega,by dsimp only;omega,step _ hk (by omega)⟩,by simp[FT.Le,Wk],zK (hHe _) (by first|exact ql.refl' _|(repeat (first|exact ql.refl (by first|omega|(dsimp only;omega))|refine ql.cons' (hHe _) (by first|omega|(dsimp only;omega)) (by first|omega|(dsimp only;omega)) ?_)))⟩
 ·have h1':¬l[i].body[j].kind=1:=fun e=>h12 (.inl e)
  have h2':¬l[i].body[j].kind=2:=fun e=>h12 (.inr e)
  simp(disch:=omega)[hlt2,h1',h2',qi (show j<2^62 by omega)]
  refine⟨⟨j+1,n2+1,m2⟩,by dsimp only;omega,⟨by dsimp only;omega,by dsimp only;omega,?_⟩,by simp[FT.Le,Wk],zK (hHe _) (by first|exact ql.refl' _|(repeat (first|exact ql.refl (by first|omega|(dsimp only;omega))|refine ql.cons' (hHe _) (by first|omega|(dsimp only;omega)) (by first|omega|(dsimp only;omega)) ?_)))⟩
  rw[<-he2]
  simp[wB,h1',h2']
theorem lkP{o:Nat}{m:List (PK×Int)}{ob:List (Nat×qc)}{nx:Nat}(hl:look o ob=some (.map (qT m)))(k:PK):
  lkL ⟨ob,nx⟩ (.st [1,0]) false (Z 0) (.map o) (uz k)=some (LV.int (qm m k)):=by
 have hs:eqK (.st [1,0]) (uz k) (uz k)=some true:=by rw[qeq,vw.2 rfl]
 have h2:=qoS k m
 unfold lkL
 rw[hs]
 simp only[Option.isSome_some,if_true,hl]
 rw[h2]
 unfold qm
 cases vD k m<;>rfl
def vu(m:List (PK×Int))(x:Lit):Int:=if x.kind=1 then qm m (ofA x.atom) else if x.kind=2 then qm m (ofA x.atom)+1 else -1
def zr(h:PK)(s:List (PK×Int)×Bool)(x:Lit):List (PK×Int)×Bool:=if qm s.1 h<vu s.1 x then (ze h (vu s.1 x) s.1,true) else s
def zU(s:List (PK×Int)×Bool)(c:qf):List (PK×Int)×Bool:=c.body.foldl (zr (ofA c.head)) s
def qam:List qf->List (PK×Int)×Bool->Option (List (PK×Int)×Bool)
 |[],s=>some s
 |c::r,s=>if ((zU s c).1.length:Int)<qm (zU s c).1 (ofA c.head) then none else qam r (zU s c)
def wo(l:List qf):Nat->List (PK×Int)->Option (Option (List (PK×Int)))
 |0,_=>none
 |n+1,m=>match qam l (m,false) with
  |none=>some none
  |some (m',true)=>wo l n m'
  |some (m',false)=>some (some m')
def InP(m:List (PK×Int))(N:Int):Prop:=∀k,0<=qm m k/\qm m k<=N
theorem qcf(k j:PK)(v:Int)(m:List (PK×Int)):qm (ze k v m) j=if j=k then v else qm m j:=by
 unfold qm
 rw[qnf]
 split<;>rfl
theorem qua{k:PK}{v:Int}{m:List (PK×Int)}(h:k∈qu m):qu (ze k v m)=qu m:=by
 rw[qdW,if_pos (qkr.2 h)]
theorem qvd{m:List (PK×Int)}{N:Int}(h:InP m N)(x:Lit):vu m x<=N+1:=by
 have h1:=h (ofA x.atom)
 unfold vu
 repeat' split
 all_goals omega
theorem qjh{h:PK}{s:List (PK×Int)×Bool}{x:Lit}(hk:h∈qu s.1):qu (zr h s x).1=qu s.1:=by
 unfold zr
 split
 ·exact qua hk
 ·rfl
theorem qvm{h:PK}{s:List (PK×Int)×Bool}{x:Lit}{N:Int}(hk:InP s.1 N):InP (zr h s x).1 (N+1):=by
 intro k
 have h1:=hk k
 have h2:=qvd hk x
 have h3:=hk h
 unfold zr
 split
 ·dsimp only
  rw[qcf]
  split<;>omega
 ·omega
def InQ(h:PK)(m:List (PK×Int))(N M:Int):Prop:=∀k,0<=qm m k/\(k≠h->qm m k<=N)/\qm m k<=M
theorem qvl{h:PK}{s:List (PK×Int)×Bool}{x:Lit}{N M:Int}(hk:InQ h s.1 N M):InQ h (zr h s x).1 N (M+1):=by
 intro k
 have h1:=hk k
 have h3:=hk h
 have h2:vu s.1 x<=M+1:=by
  have:=hk (ofA x.atom)
  unfold vu
  repeat' split
  all_goals omega
 unfold zr
 split
 ·dsimp only
  rw[qcf]
  split
  ·rename_i e;subst e;exact⟨by omega,fun h=>absurd rfl h,by omega⟩
  ·exact⟨h1.1,h1.2.1,by omega⟩
 ·exact⟨h1.1,h1.2.1,by omega⟩
structure NNQ where
 i:Nat
 n:Nat
 m:List (PK×Int)
 ch:Bool
structure NNW where
 f:Nat
 n:Nat
 m:List (PK×Int)
 ch:Bool
def w77:qo:=match b85.body with
 |.seq _ (.seq _ (.seq _ (.seq x _)))=>x
 |_=>.bad
theorem vG(m:List (PK×Int)):(qu m).length=m.length:=List.length_map ..
def okR(o:Nat)(ob:List (Nat×qc))(nx:Nat)(R:Option (List (PK×Int))):XP:=fun e t' H'=>∃(n:Nat)(m1:List (PK×Int)),nx<=n/\HWk H' ⟨qx o (.map (qT m1)) ob,n⟩/\(H'.Ok->qa.Ok ⟨qx o (.map (qT m1)) ob,n⟩) /\
 ((R=none/\e=.ret/\FT.Le (.nd .bot (.nd .bot (.nd (.bool false) .nil .nil) .nil) (.nd (.sc (.map none)) .nil .nil)) t')\/(R=some m1/\e=.normal/\FT.Le (.nd .bot .nil (.nd .bot (.nd (.map o) .nil .nil) .nil)) t'))
theorem qrs(l:List qf)(hl:l.length<2^40)(hb:∀c∈l,c.body.length<2^40)(V:List PK)(hN:V.length<2^40)(hh:∀c∈l,ofA c.head∈V)(m0:List (PK×Int))(hk0:qu m0=V)(hi0:InP m0 V.length)(fuel:Nat)(R:Option (List (PK×Int)))(hR:wo l fuel m0=some R)
  (o:Nat) (x0:qc) (ob:List (Nat×qc)) (nx:Nat) (ho:look o ob=some x0):
  lP E0 F0 w77 (.nd (qt l) (.nd .bot (.nd (.bool false) .nil .nil) .nil) (.nd (.sc (.map none)) (.nd (.map o) .nil .nil) .nil)) ⟨qx o (.map (qT m0)) ob,nx⟩ (okR o ob nx R):=by
 refine zS ?_
 simp(disch:=omega)[w77,b85]
 refine qy (σ:=NNW) (fun q=>(.nd (qt l) (.nd .bot (.nd (.bool false) .nil .nil) (.nd .bot (.nd (.bool q.ch) .nil .nil) .nil)) (.nd (.sc (.map none)) (.nd (.map o) .nil .nil) .nil))) (fun q=>⟨qx o (.map (qT q.m)) ob,q.n⟩) (fun q=>if q.ch then q.f+1 else 0)
  (fun q=>nx<=q.n/\qu q.m=V/\InP q.m V.length/\(q.ch=true->wo l q.f q.m=some R)/\(q.ch=false->R=some q.m)) ⟨fuel,nx,m0,true⟩ ⟨Nat.le_refl _,hk0,hi0,fun _=>hR,fun h=>(by cases h)⟩ (by simp[FT.Le,Wk]) ⟨HWk.refl _,fun h=>h⟩ ?_
 rintro⟨f,n,m,ch⟩ ⟨hn,hk,hin,h1,h2⟩ hok
 dsimp only at hn hk hin h1 h2 hok
 cases ch
 ·simp(disch:=omega)
  exact⟨n,m,hn,HWk.refl _,fun h=>h,.inr ⟨h2 rfl,rfl,by simp[FT.Le,Wk]⟩⟩
 have h1:=h1 rfl
 cases f with
 |zero=>cases h1
 |succ f=>
 simp only[wo]at h1
 obtain⟨Q,hQ⟩:∃Q,qam l (m,false)=Q:=⟨_,rfl⟩
 rw[hQ]at h1
 simp(disch:=omega)
 refine qy (σ:=NNQ) (fun q=>(.nd (qt l) (.nd .bot (.nd (.bool false) .nil (.nd .bot (.nd .bot .nil (.nd (.int q.i) .nil .nil)) .nil)) (.nd .bot (.nd (.bool q.ch) (.nd .bot .nil (.nd (qt l) .nil .nil)) .nil) .nil)) (.nd (.sc (.map none)) (.nd (.map o) .nil .nil) (.nd .bot (.nd .bot (.nd .bot .nil (.nd (.int l.length) .nil .nil)) .nil) .nil)))) (fun q=>⟨qx o (.map (qT q.m)) ob,q.n⟩) (fun q=>l.length - q.i)
  (fun q=>n<=q.n/\q.i<=l.length/\qu q.m=V/\InP q.m V.length/\qam (l.drop q.i) (q.m,q.ch)=Q) ⟨0,n,m,false⟩ ⟨Nat.le_refl _,Nat.zero_le _,hk,hin,hQ⟩ (by simp[FT.Le,Wk]) ⟨HWk.refl _,fun h=>h⟩ ?_
 rintro⟨i,n2,m2,ch2⟩ ⟨hn2,hi,hk2,hin2,he⟩ hok2
 dsimp only at hn2 hi hk2 hin2 he hok2
 by_cases hlt:i<l.length
 case neg=>
  rw[List.drop_eq_nil_of_le (by omega)]at he
  simp only[qam]at he
  subst he
  simp(disch:=omega)[hlt]
  cases ch2
  ·simp only[Option.some.injEq]at h1
   exact⟨⟨f,n2,m2,false⟩,by simp,⟨by dsimp only;omega,hk2,hin2,fun h=>(by cases h),fun _=>h1.symm⟩,by simp[FT.Le,Wk],HWk.refl _,fun h=>h⟩
  ·exact⟨⟨f,n2,m2,true⟩,by simp,⟨by dsimp only;omega,hk2,hin2,fun _=>h1,fun h=>(by cases h)⟩,by simp[FT.Le,Wk],HWk.refl _,fun h=>h⟩
 rw[List.drop_eq_getElem_cons hlt]at he
 simp only[qam]at he
 have hon:o<n2:=by
  have h2:qa.Ok ⟨qx o (.map (qT m2)) ob,n2⟩:=hok2
  exact h2.look (vI ho)
 have hHe:∀m':List (PK×Int),qa.Ok ⟨qx o (.map (qT m')) ob,n2⟩:=fun m'=>by
  have:=qn.put (i:=o) (o:=.map (qT m')) (show qn (qx o (.map (qT m2)) ob) n2 from hok2)
  rwa [qcd]at this
 have hbl:=hb _ (ub hlt)
 have hhd:=hh _ (ub hlt)
 have hself:∀k:PK,eqK (.st [1,0]) (uz k) (uz k)=some true:=fun k=>by rw[qeq,vw.2 rfl]
 simp(disch:=omega)[hlt]
 refine(qcx l[i].head).x (qfM _) ?_
 simp(disch:=omega)
 obtain⟨W,hW⟩:∃W,zU (m2,ch2) l[i]=W:=⟨_,rfl⟩
 rw[hW]at he
 have hok3:∀m':List (PK×Int),qa.Ok ⟨(n2+1,.cells [.str l[i].head.pred,.int l[i].head.args.length])::(n2,.cells [.str l[i].head.pred,qk l[i].head.args,zG l[i].body])::qx o (.map (qT m')) ob,n2+1+1⟩:=fun m'=>⟨Nat.lt_succ_self _,Nat.lt_succ_self _,hHe m'⟩
 refine qy (σ:=NNQ) (fun q=>(.nd (qt l) (.nd .bot (.nd (.bool false) .nil (.nd .bot (.nd .bot .nil (.nd (.int i) .nil .nil)) (.nd .bot .nil (.nd (zG l[i].body) .nil .nil)))) (.nd .bot (.nd (.bool q.ch) (.nd .bot .nil (.nd (qt l) .nil .nil)) .nil) (.nd .bot .nil (.nd .bot .nil (.nd (.int q.i) .nil .nil))))) (.nd (.sc (.map none)) (.nd (.map o) .nil (.nd (.ptr (n2+1) 0) .nil (.nd .bot .nil (.nd (.int l[i].body.length) .nil .nil)))) (.nd .bot (.nd .bot (.nd .bot .nil (.nd (.int l.length) .nil .nil)) .nil) .nil))))
  (fun q=>⟨(n2+1,.cells [.str l[i].head.pred,.int l[i].head.args.length])::(n2,.cells [.str l[i].head.pred,qk l[i].head.args,zG l[i].body])::qx o (.map (qT q.m)) ob,q.n⟩) (fun q=>l[i].body.length - q.i)
  (fun q=>n2+1+1<=q.n/\q.i<=l[i].body.length/\qu q.m=V/\InQ (ofA l[i].head) q.m V.length (V.length+q.i)/\(l[i].body.drop q.i).foldl (zr (ofA l[i].head)) (q.m,q.ch)=W) ⟨0,n2+1+1,m2,ch2⟩
  ⟨Nat.le_refl _,Nat.zero_le _,hk2,fun k=>⟨(hin2 k).1,fun _=>(hin2 k).2,by have:=(hin2 k).2;dsimp only;omega⟩,hW⟩ (by simp[FT.Le,Wk]) ⟨HWk.refl _,fun h=>h⟩ ?_
 rintro⟨j,n3,m3,ch3⟩ ⟨hn3,hj,hk3,hin3,he3⟩ hok4
 dsimp only at hn3 hj hk3 hin3 he3 hok4
 have hlo:look o (qx o (.map (qT m3)) ob)=some (.map (qT m3)):=vI ho
 have hlk:∀(a:Atom)(n:Nat)(r:List (Nat×qc)),look o r=some (.map (qT m3))->lkL ⟨r,n⟩ (.st [1,0]) false (Z 0) (.map o) (.agg [.str a.pred,.int a.args.length])=some (LV.int (qm m3 (ofA a))):=
  fun a n r hr=>lkP hr (ofA a)
 have hln:m3.length=V.length:=by rw[<-hk3,vG]
 by_cases hlt2:j<l[i].body.length
 case neg=>
  rw[List.drop_eq_nil_of_le (by omega)]at he3
  simp only[List.foldl_nil]at he3
  subst he3
  dsimp only at he
  rw[hln]at he
  simp(disch:=omega)[hlt2]
  rw[hlk _ _ _ (by rw[qe (by omega),qe (by omega)];exact hlo)]
  simp(disch:=omega)[hlo,hln]
  by_cases hgt:(V.length:Int)<qm m3 (ofA l[i].head)
  ·rw[if_pos hgt]at he
   subst he
   simp only[Option.some.injEq]at h1
   simp(disch:=omega)[hgt]
   have hbk:=zK (hHe m3) (l:=(n2+1,.cells [.str l[i].head.pred,.int l[i].head.args.length])::(n2,.cells [.str l[i].head.pred,qk l[i].head.args,zG l[i].body])::qx o (.map (qT m3)) ob) (n:=n3) (by first|exact ql.refl' _|(repeat (first|exact ql.refl (by first|omega|(dsimp only;omega))|refine ql.cons' (hHe _) (by first|omega|(dsimp only;omega)) (by first|omega|(dsimp only;omega)) ?_)))
   exact⟨n3,m3,by omega,hbk.1,hbk.2,.inl ⟨h1.symm,rfl,by simp[FT.Le,Wk]⟩⟩
  ·rw[if_neg hgt]at he
   simp(disch:=omega)[hgt,qi (show i<2^62 by omega)]
   refine⟨⟨i+1,n3,m3,ch3⟩,by dsimp only;omega,⟨by dsimp only;omega,by dsimp only;omega,hk3,fun k=>⟨(hin3 k).1,?_⟩,he⟩,by simp[FT.Le,Wk],zK (hHe m3) (by first|exact ql.refl' _|(repeat (first|exact ql.refl (by first|omega|(dsimp only;omega))|refine ql.cons' (hHe _) (by first|omega|(dsimp only;omega)) (by first|omega|(dsimp only;omega)) ?_)))⟩
   by_cases hkh:k=ofA l[i].head
   ·rw[hkh];dsimp only;omega
   ·exact(hin3 k).2.1 hkh
 rw[List.drop_eq_getElem_cons hlt2,List.foldl_cons]at he3
 have hpv:∀k:PK,0<=qm m3 k/\qm m3 k<2^42:=fun k=>⟨(hin3 k).1,by have:=(hin3 k).2.2;omega⟩
 have hmu:∀(v:Int)(n:Nat)(r:List (Nat×qc)),look o r=some (.map (qT m3))->muL ⟨r,n⟩ (.st [1,0]) (.map o) (.agg [.str l[i].head.pred,.int l[i].head.args.length]) (LV.int v)=some ⟨qx o (.map (qT (ze (ofA l[i].head) v m3))) r,n⟩:=
  fun v n r hr=>muP hr (ofA l[i].head) v
 have hinS:=qvl (h:=ofA l[i].head) (s:=(m3,ch3)) (x:=l[i].body[j]) hin3
 have hkS:=qjh (h:=ofA l[i].head) (s:=(m3,ch3)) (x:=l[i].body[j]) (by dsimp only;rw[hk3];exact hhd)
 dsimp only at hinS hkS
 rw[hk3]at hkS
 have hc:(V.length:Int)+(j:Int)+1=V.length+((j+1:Nat):Int):=by omega
 rw[hc]at hinS
 obtain⟨v,hv⟩:∃v,vu m3 l[i].body[j]=v:=⟨_,rfl⟩
 have hst:zr (ofA l[i].head) (m3,ch3) l[i].body[j]=if qm m3 (ofA l[i].head)<v then (ze (ofA l[i].head) v m3,true) else (m3,ch3):=by
  unfold zr;dsimp only;rw[hv]
 have hokN:∀m':List (PK×Int),qa.Ok ⟨(n2+1,.cells [.str l[i].head.pred,.int l[i].head.args.length])::(n2,.cells [.str l[i].head.pred,qk l[i].head.args,zG l[i].body])::qx o (.map (qT m')) ob,n3⟩:=fun m'=>⟨by show n2+1<n3;omega,Nat.lt_succ_self _,hHe m'⟩
 by_cases hk1:l[i].body[j].kind=1
 ·have hv':qm m3 (ofA l[i].body[j].atom)=v:=by rw[<-hv];simp[vu,hk1]
  simp(disch:=omega)[hlt2,hk1]
  refine(qcx l[i].body[j].atom).x (qfM _) ?_
  simp(disch:=omega)
  rw[hlk _ _ _ (by rw[qe (by omega),qe (by omega),qe (by omega)];exact hlo)]
  simp(disch:=omega)
  rw[hv']
  rw[hlk _ _ _ (by repeat (first|exact hlo|rw[qe (by omega)]))]
  simp(disch:=omega)
  by_cases hlt3:qm m3 (ofA l[i].head)<v
  ·rw[if_pos hlt3]at hst
   rw[hst]at hinS hkS he3
   simp(disch:=omega)[hlt3]
   rw[hmu _ _ _ (by repeat (first|exact hlo|rw[qe (by omega)]))]
   simp(disch:=omega)[qcd,qi (show j<2^62 by omega)]
   exact⟨⟨j+1,n3+1,ze (ofA l[i].head) v m3,true⟩,by dsimp only;omega,⟨by dsimp only;omega,by dsimp only;omega,hkS,hinS,he3⟩,by simp[FT.Le,Wk],zK (hokN _) (by first|exact ql.refl' _|(repeat (first|exact ql.refl (by first|omega|(dsimp only;omega))|refine ql.cons' (hokN _) (by first|omega|(dsimp only;omega)) (by first|omega|(dsimp only;omega)) ?_)))⟩
  ·rw[if_neg hlt3]at hst
   rw[hst]at hinS hkS he3
   simp(disch:=omega)[hlt3,qi (show j<2^62 by omega)]
   exact⟨⟨j+1,n3+1,m3,ch3⟩,by dsimp only;omega,⟨by dsimp only;omega,by dsimp only;omega,hkS,hinS,he3⟩,by simp[FT.Le,Wk],zK (hokN _) (by first|exact ql.refl' _|(repeat (first|exact ql.refl (by first|omega|(dsimp only;omega))|refine ql.cons' (hokN _) (by first|omega|(dsimp only;omega)) (by first|omega|(dsimp only;omega)) ?_)))⟩
 by_cases hk2':l[i].body[j].kind=2
 ·have hv':qm m3 (ofA l[i].body[j].atom)+1=v:=by rw[<-hv];simp[vu,hk2']
  have hpo:=hpv (ofA l[i].body[j].atom)
  simp(disch:=omega)[hlt2,hk1,hk2']
  refine(qcx l[i].body[j].atom).x (qfM _) ?_
  simp(disch:=omega)
  rw[hlk _ _ _ (by rw[qe (by omega),qe (by omega),qe (by omega)];exact hlo)]
  simp(disch:=omega)[hv',ui]
  rw[hlk _ _ _ (by repeat (first|exact hlo|rw[qe (by omega)]))]
  simp(disch:=omega)
  by_cases hlt3:qm m3 (ofA l[i].head)<v
  ·rw[if_pos hlt3]at hst
   rw[hst]at hinS hkS he3
   simp(disch:=omega)[hlt3]
   rw[hmu _ _ _ (by repeat (first|exact hlo|rw[qe (by omega)]))]
   simp(disch:=omega)[qcd,qi (show j<2^62 by omega)]
   exact⟨⟨j+1,n3+1,ze (ofA l[i].head) v m3,true⟩,by dsimp only;omega,⟨by dsimp only;omega,by dsimp only;omega,hkS,hinS,he3⟩,by simp[FT.Le,Wk],zK (hokN _) (by first|exact ql.refl' _|(repeat (first|exact ql.refl (by first|omega|(dsimp only;omega))|refine ql.cons' (hokN _) (by first|omega|(dsimp only;omega)) (by first|omega|(dsimp only;omega)) ?_)))⟩
  ·rw[if_neg hlt3]at hst
   rw[hst]at hinS hkS he3
   simp(disch:=omega)[hlt3,qi (show j<2^62 by omega)]
   exact⟨⟨j+1,n3+1,m3,ch3⟩,by dsimp only;omega,⟨by dsimp only;omega,by dsimp only;omega,hkS,hinS,he3⟩,by simp[FT.Le,Wk],zK (hokN _) (by first|exact ql.refl' _|(repeat (first|exact ql.refl (by first|omega|(dsimp only;omega))|refine ql.cons' (hokN _) (by first|omega|(dsimp only;omega)) (by first|omega|(dsimp only;omega)) ?_)))⟩
 ·have hv':v=-1:=by rw[<-hv];simp[vu,hk1,hk2']
  simp(disch:=omega)[hlt2,hk1,hk2',ui]
  rw[hlk _ _ _ (by repeat (first|exact hlo|rw[qe (by omega)]))]
  have hlt3:¬qm m3 (ofA l[i].head) < -1:=by have:=(hpv (ofA l[i].head)).1;omega
  rw[if_neg (by rw[hv'];exact hlt3)]at hst
  rw[hst]at hinS hkS he3
  simp(disch:=omega)[hlt3,qi (show j<2^62 by omega)]
  exact⟨⟨j+1,n3+1,m3,ch3⟩,by dsimp only;omega,⟨by dsimp only;omega,by dsimp only;omega,hkS,hinS,he3⟩,by simp[FT.Le,Wk],zK (hokN _) (by first|exact ql.refl' _|(repeat (first|exact ql.refl (by first|omega|(dsimp only;omega))|refine ql.cons' (hokN _) (by first|omega|(dsimp only;omega)) (by first|omega|(dsimp only;omega)) ?_)))⟩
end Go.Abs.Tz
namespace Go.Abs
open Go
section
variable{E:Env}{F:Fns}
theorem qfs{c:qo}{t:FT}{H:qa}{k k':XP}(h:lP E F c t H k)(hk:∀e t' H',k e t' H'->k' e t' H'):lP E F c t H k':=
 fun hH=>.mono (h hH) fun r hr=>by
  obtain⟨e,t',H',h1,h2,h3⟩:=hr
  exact⟨e,t',H',h1,h2,hk _ _ _ h3⟩
theorem g9{a b:qo}{t:FT}{H:qa}{k:XP}(h:lP E F a t H (qdg (fun t' H'=>lP E F b t' H' k) k)):lP E F (.seq a b) t H k:=by
 intro hH
 refine .seq (h hH) (fun fr df H' hT=>?_) (fun e fr df H' hT hne=>?_)
 ·obtain⟨e,t',H'',he,hok,hk⟩:=hT
  cases he
  exact hk hok
 ·obtain⟨e',t',H'',he,hok,hk⟩:=hT
  cases he
  cases e with
  |normal=>exact absurd rfl hne
  |exit n=>exact⟨_,t',H',rfl,hok,hk⟩
  |ret=>exact⟨_,t',H',rfl,hok,hk⟩
  |pan v=>exact⟨_,t',H',rfl,hok,hk⟩
theorem qgV{c:qo}{t:FT}{H:qa}{k:XP}(h:H.Ok->lP E F c t H k):lP E F c t H k:=fun hH=>h hH hH
theorem qdA{b:BFn}{f:FuncId}{args:List LV}{H:qa}{kv kp:HP}(hf:F.fn f b)(hn:args.length<=b.n)
  (h:H.Ok->qcT args 0 .nil fun t=>lP E F b.body t H (qeo E b (fun v H'=>∃H'',HWk H' H''/\(H'.Ok->H''.Ok)/\kv v H'') kp)):cP E F f args H kv kp:=by
 intro hH
 obtain⟨t,h1,h2⟩:=qfO (h hH)
 have ht:t.get=zz args:=by
  funext j
  rw[h2 j]
  simp only[zz]
  by_cases hj:j<args.length
  ·rw[if_pos (by omega)];simp
  ·rw[if_neg (by omega)]
   have:args[j]? = none:=List.getElem?_eq_none (by omega)
   simp[List.getD_eq_getElem?_getD,this,FT.get_nil]
 have hb:=h1 hH
 rw[ht]at hb
 refine .enter hf hn hb (fun fr df H' hT=>?_) (fun v fr df H' hT=>?_) (fun n fr df H' hT=>?_)
 ·have:∃(t':FT),fr=t'.get/\df=[]/\H'.Ok/\vp E b.res t' H' fun v=>∃H'',HWk H' H''/\(H'.Ok->H''.Ok)/\kv v H'':=by
   rcases hT with⟨e,t',H'',he,hok,hk⟩|⟨e,t',H'',he,hok,hk⟩<;>cases he
   ·exact⟨t',rfl,rfl,hok,hk⟩
   ·exact⟨t',rfl,rfl,hok,hk⟩
  obtain⟨t',rfl,rfl,hok,v,hv,H1,h3,h4,h5⟩:=this
  exact⟨rfl,v,v,H1,hv,.inl rfl,h3,.inl ⟨v,H1,rfl,h4 hok,h5⟩⟩
 ·obtain⟨e,t',H'',he,hok,hk⟩:=hT
  cases he
  exact⟨rfl,v,H',.inl rfl,⟨Nat.le_refl _,fun _ _ h=>h⟩,.inr ⟨v,H',rfl,hok,hk⟩⟩
 ·obtain⟨e,t',H'',he,hok,hk⟩:=hT
  cases he
  cases hk
end
end Go.Abs
namespace Go.Abs.Tz
open Go Go.Abs Go.Proofs
set_option maxRecDepth 20000
set_option linter.unusedSimpArgs false
attribute [local simp ↓] yb ya jv ju gI ut zg zB jr up yP yQ yc ye yf yd jA jD jG jB jH jI jE jF jC jy jw jz jx yN yL yO yM g7 gZ g8 g6 yk yh yj uu zx jL zh z7 gL yS yT yo yq yp ym yn yz jO jT jW jS jU jV gy gx j5 j7 jb uZ jm jp u9 jh jl jk jj ji jf uV uW uX uY jn jd je uT jo jq ja jc jg uU gb j6 gu gC j8 gj gt gq gp gk gh j0 gw gf gg jX gA gD j9 gd gi jY gG gz jZ gF ge ga gc j3 gv jP jR jQ yu yx yt yv yw qp uL
attribute [local simp] faL fdL iaL ixL qL zb qV eqK eqL qR zo uO yr yK yA yC yE yG yI yJ yB yF yD yH zC LV.cells LV.whole qp uC uw jM stL zF zR uq qa.alloc gJ gH gK gY gW gV gU gT gS gQ gO gN gM qe ux
theorem qnv{k j:PK}{v:Int}{m:List (PK×Int)}:j∈qu (ze k v m)↔j=k\/j∈qu m:=by
 rw[qdW]
 split
 ·rename_i h
  have:=qkr.1 h
  constructor
  ·exact .inr
  ·rintro(rfl|h)
   ·exact this
   ·exact h
 ·rw[List.mem_append,List.mem_singleton]
  exact⟨fun h=>h.symm,fun h=>h.symm⟩
theorem qnp{k:PK}{v:Int}{m:List (PK×Int)}(h:(qu m).Nodup):(qu (ze k v m)).Nodup:=by
 rw[qdW]
 split
 ·exact h
 ·rename_i hn
  refine List.nodup_append.2 ⟨h,by simp,fun a ha b hb=>?_⟩
  rw[List.mem_singleton.1 hb]
  rintro rfl
  exact hn (qkr.2 ha)
def vC(c:qf):List PK:=ofA c.head::(c.body.filter fun x=>decide (x.kind=1)||decide (x.kind=2)).map fun x=>ofA x.atom
theorem qvM(b:List Lit):∀m:List (PK×Int),(∀k,qm m k=0)->(∀k,qm (b.foldl wB m) k=0)/\((qu m).Nodup->(qu (b.foldl wB m)).Nodup) /\
  (∀k,k∈qu (b.foldl wB m)↔k∈qu m\/k∈(b.filter fun x=>decide (x.kind=1)||decide (x.kind=2)).map fun x=>ofA x.atom)/\(b.foldl wB m).length<=m.length+b.length:=by
 induction b with
 |nil=>intro m h;exact⟨h,id,fun k=>by simp,Nat.le_refl _⟩
 |cons x b ih=>
  intro m h
  rw[List.foldl_cons,List.filter_cons]
  have hx:∀k,qm (wB m x) k=0:=by
   intro k
   unfold wB
   split
   ·rw[qcf];split
    ·rfl
    ·exact h k
   ·exact h k
  have hlen:(wB m x).length<=m.length+1:=by
   unfold wB
   split
   ·have:=congrArg List.length (qdW (ofA x.atom) 0 m)
    rw[vG]at this
    rw[this]
    split
    ·rw[vG];omega
    ·simp[vG]
   ·omega
  obtain⟨a1,a2,a3,a4⟩:=ih (wB m x) hx
  refine⟨a1,fun hn=>a2 ?_,fun k=>?_,by simp only[List.length_cons];omega⟩
  ·unfold wB;split
   ·exact qnp hn
   ·exact hn
  ·rw[a3]
   unfold wB
   split
   ·rename_i hc
    rw[qnv]
    simp only[List.map_cons,List.mem_cons]
    constructor
    ·rintro((h|h)|h)
     ·exact .inr (.inl h)
     ·exact .inl h
     ·exact .inr (.inr h)
    ·rintro(h|h|h)
     ·exact .inl (.inr h)
     ·exact .inl (.inl h)
     ·exact .inr h
   ·rfl
theorem qju(l:List qf):∀m:List (PK×Int),(∀k,qm m k=0)->(∀k,qm (l.foldl y8 m) k=0)/\((qu m).Nodup->(qu (l.foldl y8 m)).Nodup) /\
  (∀k,k∈qu (l.foldl y8 m)↔k∈qu m\/∃c∈l,k∈vC c)/\(l.foldl y8 m).length<=m.length+(l.map fun c=>c.body.length+1).sum:=by
 induction l with
 |nil=>intro m h;exact⟨h,id,fun k=>by simp,Nat.le_refl _⟩
 |cons c l ih=>
  intro m h
  rw[List.foldl_cons]
  have h0:∀k,qm (ze (ofA c.head) 0 m) k=0:=fun k=>by
   rw[qcf];split
   ·rfl
   ·exact h k
  have hlen0:(ze (ofA c.head) 0 m).length<=m.length+1:=by
   have:=congrArg List.length (qdW (ofA c.head) 0 m)
   rw[vG]at this
   rw[this]
   split
   ·rw[vG];omega
   ·simp[vG]
  obtain⟨b1,b2,b3,b4⟩:=qvM c.body (ze (ofA c.head) 0 m) h0
  obtain⟨a1,a2,a3,a4⟩:=ih (y8 m c) b1
  refine⟨a1,fun hn=>a2 (b2 (qnp hn)),fun k=>?_,?_⟩
  ·rw[a3]
   unfold y8
   rw[b3,qnv]
   have hp:k∈vC c↔k=ofA c.head\/k∈(c.body.filter fun x=>decide (x.kind=1)||decide (x.kind=2)).map fun x=>ofA x.atom:=by unfold vC;exact List.mem_cons
   constructor
   ·rintro(((h|h)|h)|⟨c',hc,h⟩)
    ·exact .inr ⟨c,List.mem_cons_self,hp.2 (.inl h)⟩
    ·exact .inl h
    ·exact .inr ⟨c,List.mem_cons_self,hp.2 (.inr h)⟩
    ·exact .inr ⟨c',List.mem_cons_of_mem _ hc,h⟩
   ·rintro(h|⟨c',hc,h⟩)
    ·exact .inl (.inl (.inr h))
    ·rcases List.mem_cons.1 hc with rfl|hc
     ·rcases hp.1 h with h|h
      ·exact .inl (.inl (.inl h))
      ·exact .inl (.inr h)
     ·exact .inr ⟨c',hc,h⟩
  ·simp only[List.map_cons,List.sum_cons]
   unfold y8 at a4 ⊢
   omega
def a77:qo:=match b85.body with
 |.seq x _=>x
 |_=>.bad
def m77:qo:=match b85.body with
 |.seq _ (.seq x _)=>x
 |_=>.bad
def r77:qo:=match b85.body with
 |.seq _ (.seq _ (.seq _ (.seq _ x)))=>x
 |_=>.bad
theorem qxH:b85.body=.seq a77 (.seq m77 (.seq i77 (.seq w77 r77))):=rfl
theorem qnN{s t:FT}(h:FT.Le s t)(k:Nat){v:Value}(e:s.get k=.sc v):t.get k=.sc v:=by
 have:=h.fwk k
 rw[e]at this
 rcases this with h|h|h
 ·exact h.symm
 ·cases hx:t.get k<;>rw[hx]at h<;>simp[LV.strip]at h
  rw[h]
 ·cases h
theorem qlt(l:List qf)(hl:l.length<2^40)(hb:∀c∈l,c.body.length<2^40)(hm:(l.foldl y8 []).length<2^40)(fuel:Nat)(R:Option (List (PK×Int)))(hR:wo l fuel (l.foldl y8 [])=some R)(H:qa){kv kp:HP}
  (hk1:R=none->∀n,H.next<=n->kv (.tup [.sc (.map none),.bool false]) ⟨H.objs,n⟩) (hk2:∀m,R=some m->∀n,H.next<n->kv (.tup [.map H.next,.bool true]) ⟨(H.next,.map (qT m))::H.objs,n⟩):
  cP E0 F0 85 [qt l] H kv kp:=by
 refine qdA c85 (Nat.le_of_ble_eq_true rfl) fun hH=>?_
 rw[qxH]
 obtain⟨i1,i2,i3,_⟩:=qju l [] fun k=>rfl
 obtain⟨I,hI⟩:∃I,l.foldl y8 []=I:=⟨_,rfl⟩
 simp(disch:=omega)
 refine g9 (zS ?_)
 simp(disch:=omega)[a77,b85]
 refine g9 (zS ?_)
 simp(disch:=omega)[m77,b85]
 have hH2:qa.Ok ⟨(H.next,.map [])::H.objs,H.next+1⟩:=⟨Nat.lt_succ_self _,hH⟩
 have ho:look H.next ((H.next,qc.map [])::H.objs)=some (.map (qT [])):=by simp[look]
 refine vh (t':=(.nd (qt l) (.nd .bot (.nd (.bool false) .nil .nil) .nil) (.nd (.sc (.map none)) (.nd (.map H.next) .nil .nil) .nil))) (fun l h=>by cases h) (by simp[FT.Le,Wk]) (HWk.refl _) (fun h=>h) ?_
 refine g9 (qfs (qsm l hl hb H.next [] _ (H.next+1) ho) ?_)
 rintro e t' H' ⟨rfl,hle,n,hn,hwk,hok⟩
 have hp:∀m:List (PK×Int),qx H.next (.map (qT m)) ((H.next,qc.map [])::H.objs)=(H.next,.map (qT m))::H.objs:=fun m=>by simp[qx]
 rw[hI]at hwk hok hm hR
 rw[hI]at i1 i2 i3
 show lP E0 F0 (.seq w77 r77) t' H' _
 refine vh (fun l h=>by cases h) hle hwk hok ?_
 refine g9 (qfs (qrs l hl hb (qu I) (by rw[vG];exact hm) (fun c hc=>(i3 _).2 (.inr ⟨c,hc,List.mem_cons_self⟩)) I rfl (fun k=>⟨by rw[i1 k];omega,by rw[i1 k];omega⟩) fuel R hR H.next _ _ n ho) ?_)
 rintro e t2 H2 ⟨n2,m1,hn2,hwk2,hok2,h3|h3⟩
 ·obtain⟨rfl,rfl,hle2⟩:=h3
  have g2:t2.get 2=.sc (.map none):=qnN hle2 2 rfl
  have g3:t2.get 3=.bool false:=qnN hle2 3 rfl
  rw[hp]at hwk2 hok2
  show vp E0 b85.res t2 H2 _
  rw[show b85.res=[.t 2,.t 3] from rfl,zx]
  unfold zE
  rw[g2,g3]
  refine⟨⟨H.objs,n2⟩,⟨hwk2.1,fun i x hx=>hwk2.2 i x ?_⟩,fun h=>(hok2 h).2.mono (by show H.next<=n2;omega),hk1 rfl n2 (by omega)⟩
  have:=hH.look hx
  simp only[look]
  rw[if_neg (by omega)]
  exact hx
 ·obtain⟨rfl,rfl,hle2⟩:=h3
  show lP E0 F0 r77 t2 H2 _
  refine vh (fun l h=>by cases h) hle2 hwk2 hok2 ?_
  rw[hp]
  refine zS ?_
  simp(disch:=omega)[r77,b85,zx]
  exact keep (hk2 _ rfl _ (by omega))
end Go.Abs.Tz
namespace Go.Abs.Tz
open Go Go.Abs Go.Proofs
def wS(h:PK)(x:Lit):Option (wI PK):=if x.kind=1 then some (h,ofA x.atom,0) else if x.kind=2 then some (h,ofA x.atom,1) else none
def qfE(c:qf):List (wI PK):=c.body.filterMap (wS (ofA c.head))
def vi(l:List qf):List (wI PK):=l.flatMap qfE
def qN(m:List (PK×Int)):PK->Nat:=fun k=>(qm m k).toNat
def NN0(m:List (PK×Int)):Prop:=∀k,0<=qm m k
theorem qvk{h:PK}{s:List (PK×Int)×Bool}{x:Lit}(h0:NN0 s.1):
  NN0 (zr h s x).1/\qN (zr h s x).1=(match wS h x with|none=>qN s.1|some e=>qaJ (qN s.1) e)/\(∀k,qm s.1 k<=qm (zr h s x).1 k)/\(∀k,k≠h->qm (zr h s x).1 k=qm s.1 k) /\
  ((zr h s x).2=false->zr h s x=s)/\((zr h s x).2=true->s.2=true\/qm s.1 h<qm (zr h s x).1 h):=by
 have hl:∀e,wS h x=some e->e.1=h/\vu s.1 x=qm s.1 e.2.1+e.2.2:=by
  intro e he
  unfold wS at he
  unfold vu
  by_cases h1:x.kind=1
  ·rw[if_pos h1]at he;cases he;rw[if_pos h1];exact⟨rfl,by simp⟩
  ·rw[if_neg h1]at he
   rw[if_neg h1]
   by_cases h2:x.kind=2
   ·rw[if_pos h2]at he;cases he;rw[if_pos h2];exact⟨rfl,by simp⟩
   ·rw[if_neg h2]at he;cases he
 have hn:wS h x=none->vu s.1 x=-1:=by
  intro he
  unfold wS at he
  unfold vu
  by_cases h1:x.kind=1
  ·rw[if_pos h1]at he;cases he
  ·rw[if_neg h1]at he
   by_cases h2:x.kind=2
   ·rw[if_pos h2]at he;cases he
   ·rw[if_neg h1,if_neg h2]
 have hh:=h0 h
 by_cases hc:qm s.1 h<vu s.1 x
 ·have e0:zr h s x=(ze h (vu s.1 x) s.1,true):=by unfold zr;rw[if_pos hc]
  rw[e0]
  refine⟨fun k=>?_,?_,fun k=>?_,fun k hk=>?_,fun h=>(by cases h),fun _=>.inr ?_⟩
  ·dsimp only;rw[qcf];split
   ·omega
   ·exact h0 k
  ·cases he:wS h x with
   |none=>rw[hn he]at hc;omega
   |some e=>
    obtain⟨h1,h2⟩:=hl e he
    funext k
    unfold qaJ qN
    dsimp only
    rw[qcf,h1]
    by_cases hk:k=h
    ·rw[if_pos hk,if_pos hk,h2,hk]
     have:=h0 e.2.1
     rw[h2]at hc
     omega
    ·rw[if_neg hk,if_neg hk]
  ·dsimp only;rw[qcf];split
   ·rename_i hk;rw[hk];omega
   ·omega
  ·dsimp only;rw[qcf,if_neg hk]
  ·dsimp only;rw[qcf,if_pos rfl];exact hc
 ·have e0:zr h s x=s:=by unfold zr;rw[if_neg hc]
  rw[e0]
  refine⟨h0,?_,fun k=>by omega,fun _ _=>rfl,fun _=>rfl,fun h=>.inl h⟩
  cases he:wS h x with
  |none=>rfl
  |some e=>
   obtain⟨h1,h2⟩:=hl e he
   funext k
   unfold qaJ qN
   dsimp only
   rw[h1]
   by_cases hk:k=h
   ·rw[if_pos hk,hk]
    rw[h2]at hc
    have:=h0 e.2.1
    omega
   ·rw[if_neg hk]
structure qaY(Hd:PK->Prop)(s t:List (PK×Int)×Bool):Prop where
 nn:NN0 t.1
 le:∀k,qm s.1 k<=qm t.1 k
 oth:∀k,¬Hd k->qm t.1 k=qm s.1 k
 no:t.2=false->t=s
 yes:t.2=true->s.2=true\/∃k,Hd k/\qm s.1 k<qm t.1 k
theorem qaY.refl{Hd:PK->Prop}{s:List (PK×Int)×Bool}(h:NN0 s.1):qaY Hd s s:=⟨h,fun _=>Int.le_refl _,fun _ _=>rfl,fun _=>rfl,fun h=>.inl h⟩
theorem qaY.trans{Hd:PK->Prop}{s t u:List (PK×Int)×Bool}(h1:qaY Hd s t)(h2:qaY Hd t u):qaY Hd s u where
 nn:=h2.nn
 le k:=Int.le_trans (h1.le k) (h2.le k)
 oth k hk:=(h2.oth k hk).trans (h1.oth k hk)
 no h:=by
  have e:=h2.no h
  rw[e]at h ⊢
  exact h1.no h
 yes h:=by
  rcases h2.yes h with h|⟨k,hk,hlt⟩
  ·rcases h1.yes h with h|⟨k,hk,hlt⟩
   ·exact .inl h
   ·exact .inr ⟨k,hk,by have:=h2.le k;omega⟩
  ·exact .inr ⟨k,hk,by have:=h1.le k;omega⟩
theorem qaY.mono{Hd Hd':PK->Prop}{s t:List (PK×Int)×Bool}(h:qaY Hd s t)(hh:∀k,Hd k->Hd' k):qaY Hd' s t where
 nn:=h.nn
 le:=h.le
 oth k hk:=h.oth k fun e=>hk (hh k e)
 no:=h.no
 yes e:=(h.yes e).imp id fun⟨k,hk,hlt⟩=>⟨k,hh k hk,hlt⟩
theorem qhy{h:PK}:∀(b:List Lit)(s:List (PK×Int)×Bool),NN0 s.1->qaY (fun k=>k=h) s (b.foldl (zr h) s)/\qN (b.foldl (zr h) s).1=vt (b.filterMap (wS h)) (qN s.1)/\(h∈qu s.1->qu (b.foldl (zr h) s).1=qu s.1)
 |[],s,h0=>⟨.refl h0,rfl,fun _=>rfl⟩
 |x::b,s,h0=>by
  obtain⟨a1,a2,a3,a4,a5,a6⟩:=qvk (h:=h) (x:=x) h0
  obtain⟨b1,b2,b3⟩:=qhy b (zr h s x) a1
  have h1:qaY (fun k=>k=h) s (zr h s x):=⟨a1,a3,a4,a5,fun e=>(a6 e).imp id fun hlt=>⟨h,rfl,hlt⟩⟩
  rw[List.foldl_cons]
  refine⟨h1.trans b1,?_,fun hk=>?_⟩
  ·rw[b2,a2,List.filterMap_cons]
   cases wS h x<;>rfl
  ·have hk':=qjh (x:=x) hk
   rw[b3 (by rw[hk'];exact hk),hk']
def qvR(l:List qf)(k:PK):Prop:=∃c∈l,ofA c.head=k
theorem qtY{K:Type}[DecidableEq K](A B:List (wI K))(f:K->Nat):vt (A++B) f=vt B (vt A f):=List.foldl_append
theorem qdj:∀(l:List qf)(s:List (PK×Int)×Bool),NN0 s.1->qaY (qvR l) s (l.foldl zU s)/\qN (l.foldl zU s).1=vt (vi l) (qN s.1)/\((∀c∈l,ofA c.head∈qu s.1)->qu (l.foldl zU s).1=qu s.1)
 |[],s,h0=>⟨.refl h0,rfl,fun _=>rfl⟩
 |c::l,s,h0=>by
  obtain⟨a1,a2,a3⟩:=qhy (h:=ofA c.head) c.body s h0
  obtain⟨b1,b2,b3⟩:=qdj l (zU s c) a1.nn
  rw[List.foldl_cons]
  refine⟨(a1.mono fun k hk=>⟨c,List.mem_cons_self,hk.symm⟩).trans (b1.mono fun k ⟨c',h1,h2⟩=>⟨c',List.mem_cons_of_mem _ h1,h2⟩),?_,fun hk=>?_⟩
  ·rw[b2]
   show vt (vi l) (qN (zU s c).1)=vt (qfE c++vi l) (qN s.1)
   rw[qtY]
   show _=vt (vi l) (vt (qfE c) (qN s.1))
   unfold zU
   rw[a2]
   rfl
  ·have hc:=a3 (hk c List.mem_cons_self)
   have hc':qu (zU s c).1=qu s.1:=hc
   rw[b3 fun c' h'=>by rw[hc'];exact hk c' (List.mem_cons_of_mem _ h'),hc']
theorem qiz{N:Int}:∀(l:List qf)(s t:List (PK×Int)×Bool),NN0 s.1->(∀c∈l,ofA c.head∈qu s.1)->((qu s.1).length:Int)=N->qam l s=some t->t=l.foldl zU s/\(InP s.1 N->InP t.1 N)
 |[],s,t,_,_,_,h=>by cases h;exact⟨rfl,id⟩
 |c::l,s,t,h0,hk,hN,h=>by
  obtain⟨a1,a2,a3⟩:=qhy (h:=ofA c.head) c.body s h0
  have hc:=a3 (hk c List.mem_cons_self)
  have hc':qu (zU s c).1=qu s.1:=hc
  simp only[qam]at h
  split at h
  ·cases h
  ·rename_i hle
   obtain⟨b1,b2⟩:=qiz (N:=N) l (zU s c) t a1.nn (fun c' h'=>by rw[hc'];exact hk c' (List.mem_cons_of_mem _ h')) (by rw[hc'];exact hN) h
   refine⟨b1,fun hin=>b2 fun k=>⟨a1.nn k,?_⟩⟩
   have hlen:((zU s c).1.length:Int)=N:=by rw[<-hN,<-hc',vG]
   by_cases hkh:k=ofA c.head
   ·rw[hkh];omega
   ·have:qm (zU s c).1 k=qm s.1 k:=a1.oth k hkh
    rw[this];exact(hin k).2
theorem qiA{F:PK->Nat}{N:Nat}:∀(l:List qf)(s:List (PK×Int)×Bool),NN0 s.1->(∀c∈l,ofA c.head∈qu s.1)->(qu s.1).length=N->(∀k,qN s.1 k<=F k)->yV (vi l) F->(∀k∈qu s.1,F k<N)->qam l s≠none
 |[],_,_,_,_,_,_,_=>by simp[qam]
 |c::l,s,h0,hk,hN,hle,hs,hF=>by
  obtain⟨a1,a2,a3⟩:=qhy (h:=ofA c.head) c.body s h0
  have hc:=a3 (hk c List.mem_cons_self)
  have hc':qu (zU s c).1=qu s.1:=hc
  have hs1:yV (qfE c) F:=fun e he=>hs e (List.mem_append_left _ he)
  have hs2:yV (vi l) F:=fun e he=>hs e (List.mem_append_right _ he)
  have hle2:∀k,qN (zU s c).1 k<=F k:=by
   intro k
   have:qN (zU s c).1=vt (qfE c) (qN s.1):=a2
   rw[this]
   exact qdm hs1 hle k
  have hlen:(zU s c).1.length=N:=by rw[<-hN,<-hc',vG]
  simp only[qam]
  rw[if_neg]
  ·exact qiA (N:=N) l (zU s c) a1.nn (fun c' h'=>by rw[hc'];exact hk c' (List.mem_cons_of_mem _ h')) (by rw[hc'];exact hN) hle2 hs2 (by rw[hc'];exact hF)
  ·have h1:=hle2 (ofA c.head)
   have h2:=hF _ (hk c List.mem_cons_self)
   have h3:=a1.nn (ofA c.head)
   unfold qN at h1
   have h3':0<=qm (zU s c).1 (ofA c.head):=h3
   omega
structure qcs(l:List qf)(V:List PK)(m:List (PK×Int)):Prop where
 keys:qu m=V
 nn:NN0 m
 sol:yV (vi l) (qN m)
 le:∀g,yV (vi l) g->∀k,qN m k<=g k
def qfW(l:List qf)(V:List PK)(R:Option (List (PK×Int))):Prop:=match R with
 |none=>¬∃g,yV (vi l) g
 |some m=>qcs l V m
theorem qfF{l:List qf}{V:List PK}(hV:∀c∈l,∀k∈vC c,k∈V):∀e∈vi l,e.1∈V/\e.2.1∈V/\e.2.2<=1:=by
 intro e he
 obtain⟨c,hc,he⟩:=List.mem_flatMap.1 he
 obtain⟨x,hx,he⟩:=List.mem_filterMap.1 he
 have h1:ofA c.head∈V:=hV c hc _ List.mem_cons_self
 have h2:x.kind=1\/x.kind=2->ofA x.atom∈V:=fun hk=>hV c hc _ (List.mem_cons_of_mem _ (List.mem_map.2 ⟨x,List.mem_filter.2 ⟨hx,by simpa using hk⟩,rfl⟩))
 unfold wS at he
 split at he
 ·rename_i hk;cases he;exact⟨h1,h2 (.inl hk),by simp⟩
 ·split at he
  ·rename_i hk;cases he;exact⟨h1,h2 (.inr hk),by simp⟩
  ·cases he
theorem qtc{V:List PK}{f:PK->Nat}{N:Nat}(h:∀k∈V,f k<=N):vn V f<=V.length*N:=by
 induction V with
 |nil=>exact Nat.zero_le _
 |cons a V ih=>
  have h1:=h a List.mem_cons_self
  have h2:=ih fun k hk=>h k (List.mem_cons_of_mem _ hk)
  simp only[vn,List.map_cons,List.sum_cons,List.length_cons,Nat.add_mul]at h2 ⊢
  omega
theorem qiW{l:List qf}{m m':List (PK×Int)}(h0:NN0 m)(h:(m',false)=l.foldl zU (m,false)):m'=m/\yV (vi l) (qN m):=by
 obtain⟨a1,a2,a3⟩:=qdj l (m,false) h0
 have e:m'=m:=by
  have:=a1.no (by rw[<-h])
  rw[<-h]at this
  exact(Prod.mk.inj this).1
 refine⟨e,qti fun e' _=>?_⟩
 rw[<-h,e]at a2
 have a2':qN m=vt (vi l) (qN m):=a2
 rw[<-a2']
theorem qhv{l:List qf}{V:List PK}{m m':List (PK×Int)}(hh:∀c∈l,ofA c.head∈V)(h0:NN0 m)(h:(m',true)=l.foldl zU (m,false)):∃k∈V,qN m k<qN m' k/\∀k,qN m k<=qN m' k:=by
 obtain⟨a1,a2,a3⟩:=qdj l (m,false) h0
 rw[<-h]at a1
 rcases a1.yes rfl with h|⟨k,⟨c,hc,hk⟩,hlt⟩
 ·cases h
 ·have hlt':qm m k<qm m' k:=hlt
  refine⟨k,hk▸hh c hc,?_,fun k=>?_⟩
  ·have:=h0 k
   unfold qN;omega
  ·have:qm m k<=qm m' k:=a1.le k
   unfold qN;omega
theorem qxk{l:List qf}{V:List PK}(hV:∀c∈l,∀k∈vC c,k∈V):∀(d:Nat)(m:List (PK×Int)),qu m=V->InP m V.length->(∀g,yV (vi l) g->∀k,qN m k<=g k)->V.length*V.length<=vn V (qN m)+d ->
  ∃R,wo l (d+1) m=some R/\qfW l V R:=by
 have hh:∀c∈l,ofA c.head∈V:=fun c hc=>hV c hc _ List.mem_cons_self
 have hE:=qfF hV
 intro d
 induction d with
 |zero=>
  intro m hk hin hle hd
  have h0:NN0 m:=fun k=>(hin k).1
  cases hr:qam l (m,false) with
  |none=>
   refine⟨none,by simp[wo,hr],?_⟩
   rintro⟨g,hg⟩
   obtain⟨F,hF,hmin⟩:=qjm V hg
   exact qiA l (m,false) h0 (by rw[hk];exact hh) (by rw[hk]) (hle F hF) hF (fun k hk'=>qgT hF hmin (fun e he=>⟨(hE e he).1,(hE e he).2.1⟩) (fun e he=>(hE e he).2.2) (by rw[hk]at hk';exact hk')) hr
  |some t=>
   obtain⟨m',b⟩:=t
   obtain⟨h1,h2⟩:=qiz (N:=V.length) l (m,false) _ h0 (by rw[hk];exact hh) (by rw[hk]) hr
   have hin':=h2 hin
   cases b with
   |false=>
    obtain⟨rfl,hs⟩:=qiW h0 h1
    exact⟨some m',by simp[wo,hr],hk,h0,hs,hle⟩
   |true=>
    obtain⟨k,hkV,hlt,hle'⟩:=qhv hh h0 h1
    have hs1:=qgj (V:=V) (fun k _=>hle' k) hkV hlt
    have hs2:=qtc (V:=V) (f:=qN m') (N:=V.length) fun k _=>by
     have:qm m' k<=V.length:=(hin' k).2
     unfold qN;omega
    omega
 |succ d ih=>
  intro m hk hin hle hd
  have h0:NN0 m:=fun k=>(hin k).1
  cases hr:qam l (m,false) with
  |none=>
   refine⟨none,by simp[wo,hr],?_⟩
   rintro⟨g,hg⟩
   obtain⟨F,hF,hmin⟩:=qjm V hg
   exact qiA l (m,false) h0 (by rw[hk];exact hh) (by rw[hk]) (hle F hF) hF (fun k hk'=>qgT hF hmin (fun e he=>⟨(hE e he).1,(hE e he).2.1⟩) (fun e he=>(hE e he).2.2) (by rw[hk]at hk';exact hk')) hr
  |some t=>
   obtain⟨m',b⟩:=t
   obtain⟨h1,h2⟩:=qiz (N:=V.length) l (m,false) _ h0 (by rw[hk];exact hh) (by rw[hk]) hr
   have hin':=h2 hin
   cases b with
   |false=>
    obtain⟨rfl,hs⟩:=qiW h0 h1
    exact⟨some m',by simp[wo,hr],hk,h0,hs,hle⟩
   |true=>
    obtain⟨k,hkV,hlt,hle'⟩:=qhv hh h0 h1
    have hs1:=qgj (V:=V) (fun k _=>hle' k) hkV hlt
    obtain⟨a1,a2,a3⟩:=qdj l (m,false) h0
    rw[<-h1]at a2 a3
    have hk':qu m'=V:=(a3 (by rw[hk];exact hh)).trans hk
    obtain⟨R,hR,hE'⟩:=ih m' hk' hin' (fun g hg k=>by
     have a2':qN m'=vt (vi l) (qN m):=a2
     rw[a2']
     exact qdm hg (hle g hg) k) (by omega)
    exact⟨R,by simp only[wo,hr];exact hR,hE'⟩
def qaL(l:List qf):Nat->List (PK×Int)->Option (List (PK×Int))
 |0,_=>none
 |n+1,m=>match l.foldl zU (m,false) with
  |(m',false)=>some m'
  |(m',true)=>if m'.any (fun e=>decide ((m'.length:Int)<e.2)) then none else qaL l n m'
theorem qgF:∀{m:List (PK×Int)},(qu m).Nodup->∀e∈m,qm m e.1=e.2
 |[],_,e,h=>by cases h
 |(j,u)::r,hn,e,h=>by
  obtain⟨h1,h2⟩:=List.nodup_cons.1 (show (j::qu r).Nodup from hn)
  unfold qm vD
  rcases List.mem_cons.1 h with rfl|h
  ·simp only;rw[if_pos (vw.2 rfl)];rfl
  ·have:¬vx e.1 j=true:=fun he=>h1 (by rw[<-vw.1 he];exact List.mem_map_of_mem h)
   rw[if_neg this]
   exact qgF h2 e h
theorem qty{l:List qf}{V:List PK}(hV:∀c∈l,∀k∈vC c,k∈V){F:PK->Nat}(hF:yV (vi l) F)(hmin:∀g',yV (vi l) g'->vn V F<=vn V g')(hN:V.Nodup):
  ∀(n:Nat)(m:List (PK×Int)),qu m=V->NN0 m->(∀k,qN m k<=F k)->(V.filter fun k=>decide (qN m k≠F k)).length<=n->qaL l (n+1) m≠none:=by
 have hh:∀c∈l,ofA c.head∈V:=fun c hc=>hV c hc _ List.mem_cons_self
 have hE:=qfF hV
 have hE':∀e∈vi l,e.1∈V/\e.2.1∈V:=fun e he=>⟨(hE e he).1,(hE e he).2.1⟩
 intro n
 induction n with
 |zero=>
  intro m hk h0 hle hn
  obtain⟨⟨m',b⟩,hr⟩:∃t,l.foldl zU (m,false)=t:=⟨_,rfl⟩
  simp only[qaL,hr]
  cases b with
  |false=>simp
  |true=>
   exfalso
   obtain⟨k,hkV,hlt,_⟩:=qhv hh h0 hr.symm
   obtain⟨a1,a2,a3⟩:=qdj l (m,false) h0
   rw[hr]at a2
   have a2':qN m'=vt (vi l) (qN m):=a2
   have h1:=qdm hF hle k
   rw[<-a2']at h1
   have:k∈V.filter fun k=>decide (qN m k≠F k):=List.mem_filter.2 ⟨hkV,by simp only[decide_eq_true_eq];omega⟩
   rw[List.length_eq_zero_iff.1 (Nat.le_zero.1 hn)]at this
   cases this
 |succ n ih=>
  intro m hk h0 hle hn
  obtain⟨⟨m',b⟩,hr⟩:∃t,l.foldl zU (m,false)=t:=⟨_,rfl⟩
  rw[qaL,hr]
  cases b with
  |false=>simp
  |true=>
   obtain⟨k,hkV,hlt,hle'⟩:=qhv hh h0 hr.symm
   obtain⟨a1,a2,a3⟩:=qdj l (m,false) h0
   rw[hr]at a1 a2 a3
   have hk':qu m'=V:=(a3 (by rw[hk];exact hh)).trans hk
   have a2':qN m'=vt (vi l) (qN m):=a2
   have hleF:∀k,qN m' k<=F k:=fun k=>by rw[a2'];exact qdm hF hle k
   have hne:qN m k≠F k:=by have:=hleF k;omega
   obtain⟨u,hu,h1,h2⟩:=qtX hF hmin hE' hle hkV hne
   have hcnt:=qwq (V:=V) (p:=fun k=>decide (qN m k≠F k)) (q:=fun k=>decide (qN m' k≠F k)) (fun k _ hk=>by
    have h3:=hle' k
    have h4:=hleF k
    simp only[decide_eq_true_eq]at hk ⊢
    omega) hu (by simpa using h1) (by rw[a2'];simpa using h2)
   have hno:m'.any (fun e=>decide ((m'.length:Int)<e.2))=false:=by
    rw[List.any_eq_false]
    intro e he
    have hv:=qgF (by rw[hk'];exact hN) e he
    have hkey:e.1∈V:=by rw[<-hk'];exact List.mem_map_of_mem he
    have hb:=qgT hF hmin hE' (fun e he=>(hE e he).2.2) hkey
    have hf:=hleF e.1
    have hlen:m'.length=V.length:=by rw[<-hk',vG]
    unfold qN at hf
    rw[hv]at hf
    simp only[decide_eq_true_eq]
    omega
   dsimp only
   rw[hno]
   exact ih m' hk' a1.nn hleF (by omega)
theorem qmL{l:List qf}{V:List PK}(hh:∀c∈l,ofA c.head∈V):∀(n:Nat)(m R:List (PK×Int)),qu m=V->NN0 m->(∀g,yV (vi l) g->∀k,qN m k<=g k)->qaL l n m=some R->qcs l V R
 |0,_,_,_,_,_,h=>by cases h
 |n+1,m,R,hk,h0,hle,h=>by
  obtain⟨⟨m',b⟩,hr⟩:∃t,l.foldl zU (m,false)=t:=⟨_,rfl⟩
  simp only[qaL,hr]at h
  cases b with
  |false=>
   cases h
   obtain⟨rfl,hs⟩:=qiW h0 hr.symm
   exact⟨hk,h0,hs,hle⟩
  |true=>
   simp only at h
   split at h
   ·cases h
   ·obtain⟨a1,a2,a3⟩:=qdj l (m,false) h0
    rw[hr]at a1 a2 a3
    have hk':qu m'=V:=(a3 (by rw[hk];exact hh)).trans hk
    have a2':qN m'=vt (vi l) (qN m):=a2
    exact qmL hh n m' R hk' a1.nn (fun g hg k=>by rw[a2'];exact qdm hg (hle g hg) k) h
theorem qtz{l:List qf}{V:List PK}(hV:∀c∈l,∀k∈vC c,k∈V)(hN:V.Nodup)(m:List (PK×Int))(hk:qu m=V)(h0:∀k,qm m k=0)(n:Nat)(hn:V.length<=n):qfW l V (qaL l (n+1) m):=by
 have hnn:NN0 m:=fun k=>by rw[h0 k];omega
 have hz:∀k,qN m k=0:=fun k=>by unfold qN;rw[h0 k];rfl
 cases hr:qaL l (n+1) m with
 |none=>
  rintro⟨g,hg⟩
  obtain⟨F,hF,hmin⟩:=qjm V hg
  exact qty hV hF hmin hN n m hk hnn (fun k=>by rw[hz k];omega) (Nat.le_trans (List.length_filter_le _ _) hn) hr
 |some R=>exact qmL (fun c hc=>hV c hc _ List.mem_cons_self) _ m R hk hnn (fun g _ k=>by rw[hz k];omega) hr
theorem qtm{l:List qf}{V W:List PK}{R S:Option (List (PK×Int))}(h1:qfW l V R)(h2:qfW l W S):(R=none/\S=none)\/∃m q,R=some m/\S=some q/\qcs l V m/\qcs l W q/\∀k,qm m k=qm q k:=by
 cases R with
 |none=>
  cases S with
  |none=>exact .inl ⟨rfl,rfl⟩
  |some q=>exact absurd ⟨_,(show qcs l W q from h2).sol⟩ h1
 |some m=>
  cases S with
  |none=>exact absurd ⟨_,(show qcs l V m from h1).sol⟩ h2
  |some q=>
   have a:qcs l V m:=h1
   have b:qcs l W q:=h2
   refine .inr ⟨m,q,rfl,rfl,a,b,fun k=>?_⟩
   have c1:=a.le _ b.sol k
   have c2:=b.le _ a.sol k
   have c3:=a.nn k
   have c4:=b.nn k
   unfold qN at c1 c2
   omega
end Go.Abs.Tz
namespace Go.Abs.Tz
open Go Go.Abs Go.Proofs
set_option maxRecDepth 20000
set_option linter.unusedSimpArgs false
attribute [local simp ↓] yb ya jv ju gI ut zg zB jr up yP yQ yc ye yf yd jA jD jG jB jH jI jE jF jC jy jw jz jx yN yL yO yM g7 gZ g8 g6 yk yh yj uu zx jL zh z7 gL yS yT yo yq yp ym yn yz jO jT jW jS jU jV gy gx j5 j7 jb uZ jm jp u9 jh jl jk jj ji jf uV uW uX uY jn jd je uT jo jq ja jc jg uU gb j6 gu gC j8 gj gt gq gp gk gh j0 gw gf gg jX gA gD j9 gd gi jY gG gz jZ gF ge ga gc j3 gv jP jR jQ yu yx yt yv yw qp uL
attribute [local simp] faL fdL iaL ixL qL zb qV eqK eqL qR zo uO yr yK yA yC yE yG yI yJ yB yF yD yH zC LV.cells LV.whole qp uC uw jM stL zF zR uq qa.alloc gJ gH gK gY gW gV gU gT gS gQ gO gN gM qe ux
def qaR(x:qE):PK:=(x.pred,x.args)
def qch(x:qE)(k:PK):Bool:=eqBA x.pred k.1&&decide (x.args=k.2)
def uN:List qE->PK->Nat->Int
 |[],_,_=>-1
 |x::r,k,i=>if qch x k then (i:Int) else uN r k (i+1)
theorem qln(A:List qE)(own:Own)(a:Atom)(hA:A.length<2^40):qg 144 [.sl (A.map qD) own,qd a] (.int (uN A (ofA a) 0)):=by
 refine qg.of c144 fun H hH=>⟨Nat.le_of_ble_eq_true rfl,?_⟩
 simp(disch:=omega)[b144]
 obtain⟨R,hR⟩:∃R,uN A (ofA a) 0=R:=⟨_,rfl⟩
 rw[hR]
 refine qy (σ:=NN) (fun q=>(.nd (.sl (A.map qD) own) (.nd .bot (.nd (.ptr H.next 0) .nil .nil) (.nd (.int q.i) .nil .nil)) .nil)) (fun q=>⟨(H.next,.cells [.str a.pred,qk a.args])::H.objs,q.n⟩) (fun q=>A.length - q.i)
  (fun q=>H.next+1<=q.n/\q.i<=A.length/\uN (A.drop q.i) (ofA a) q.i=R) ⟨0,H.next+1⟩ ⟨Nat.le_refl _,Nat.zero_le _,hR⟩ (by simp[FT.Le,Wk]) ⟨HWk.refl _,fun h=>h⟩ ?_
 rintro⟨i,n⟩ ⟨hn,hi,he⟩ hok
 simp only at hn hi he
 by_cases hlt:i<A.length
 case neg=>
  obtain rfl:i=A.length:=by omega
  rw[List.drop_eq_nil_of_le (Nat.le_refl _)]at he
  simp only[uN]at he
  simp(disch:=omega)
  exact qh hH (by simp[<-he])
 rw[List.drop_eq_getElem_cons hlt]at he
 simp only[uN]at he
 have em:qch A[i] (ofA a)=(eqBA A[i].pred a.pred&&decide (A[i].args=a.args.length)):=rfl
 cases hp:eqBA A[i].pred a.pred
 ·simp[em,hp]at he
  simp(disch:=omega)[hlt,hp,qi (show i<2^62 by omega)]
  exact⟨⟨i+1,n⟩,by dsimp only;omega,⟨by dsimp only;omega,by dsimp only;omega,he⟩,by simp[FT.Le,Wk],HWk.refl _,fun h=>h⟩
 by_cases hq:A[i].args=a.args.length
 ·simp[em,hp,hq]at he
  simp(disch:=omega)[hlt,hp,hq]
  exact qh hH (by simp[<-he])
 ·simp[em,hp,hq]at he
  simp(disch:=omega)[hlt,hp,hq,qi (show i<2^62 by omega)]
  exact⟨⟨i+1,n⟩,by dsimp only;omega,⟨by dsimp only;omega,by dsimp only;omega,he⟩,by simp[FT.Le,Wk],HWk.refl _,fun h=>h⟩
theorem qwm(A:List qE){j c:Nat}(hj:j<A.length)(hc:c<3):(A.flatMap zH)[j*3+c]? = (zH A[j])[c]?:=by
 have h:=qoG qdf hj
 rw[<-h,List.getElem?_take,if_pos hc,List.getElem?_drop]
theorem ldA{A:List qE}{o:Nat}{ob:List (Nat×qc)}{n:Nat}(hl:look o ob=some (qX A)){j c:Nat}(hj:j<A.length)(hc:c<3):qL ⟨ob,n⟩ none (.ptr o (j*3+c))=(zH A[j])[c]?:=by
 simp only[qL,hl,zb]
 exact qwm A hj hc
theorem iaA{A:List qE}{o:Nat}{ob:List (Nat×qc)}{n:Nat}(hl:look o ob=some (qX A)){j m:Nat}(hj:j<m):iaL ⟨ob,n⟩ 3 (.asl o 0 m) (.int (j:Int))=some (.ptr o (j*3)):=by
 simp[iaL,uL,hl,hj]
theorem qlm(A:List qE)(o:Nat)(ob:List (Nat×qc))(nx:Nat)(hlo:look o ob=some (qX A))(a:Atom)(hA:A.length<2^40){kv kp:HP}
  (hk:∀n,nx<=n->kv (.int (uN A (ofA a) 0)) ⟨ob,n⟩):cP E0 F0 144 [.asl o 0 A.length,qd a] ⟨ob,nx⟩ kv kp:=by
 refine ur c144 fun hH=>⟨Nat.le_of_ble_eq_true rfl,?_⟩
 simp(disch:=omega)[b144]
 obtain⟨R,hR⟩:∃R,uN A (ofA a) 0=R:=⟨_,rfl⟩
 rw[hR]at hk
 have hon:o<nx:=by
  have h2:qa.Ok ⟨ob,nx⟩:=hH
  exact h2.look hlo
 have hlo2:look o ((nx,qc.cells [.str a.pred,qk a.args])::ob)=some (qX A):=by rw[qe (by omega)];exact hlo
 refine qy (σ:=NN) (fun q=>(.nd (.asl o 0 A.length) (.nd .bot (.nd (.ptr nx 0) .nil .nil) (.nd (.int q.i) .nil .nil)) .nil)) (fun q=>⟨(nx,.cells [.str a.pred,qk a.args])::ob,q.n⟩) (fun q=>A.length - q.i)
  (fun q=>nx+1<=q.n/\q.i<=A.length/\uN (A.drop q.i) (ofA a) q.i=R) ⟨0,nx+1⟩ ⟨Nat.le_refl _,Nat.zero_le _,hR⟩ (by simp[FT.Le,Wk]) ⟨HWk.refl _,fun h=>h⟩ ?_
 rintro⟨i,n⟩ ⟨hn,hi,he⟩ hok
 simp only at hn hi he
 have hfin:HWk ⟨(nx,qc.cells [.str a.pred,qk a.args])::ob,n⟩ ⟨ob,n⟩:=⟨Nat.le_refl _,fun j x hx=>by
  have h2:qa.Ok ⟨ob,nx⟩:=hH
  have:=h2.look hx
  simp only[look]
  rw[if_neg (by dsimp only at this;omega)]
  exact hx⟩
 have hfo:qa.Ok ⟨(nx,qc.cells [.str a.pred,qk a.args])::ob,n⟩->qa.Ok ⟨ob,n⟩:=fun h=>h.2.mono (by show nx<=n;omega)
 by_cases hlt:i<A.length
 case neg=>
  obtain rfl:i=A.length:=by omega
  rw[List.drop_eq_nil_of_le (Nat.le_refl _)]at he
  simp only[uN]at he
  simp(disch:=omega)
  rw[<-he]at hk
  exact⟨_,hfin,hfo,hk n (by omega)⟩
 rw[List.drop_eq_getElem_cons hlt]at he
 simp only[uN]at he
 have em:qch A[i] (ofA a)=(eqBA A[i].pred a.pred&&decide (A[i].args=a.args.length)):=rfl
 have l0:qL ⟨(nx,.cells [.str a.pred,qk a.args])::ob,n⟩ none (.ptr o (i*3))=some (.str A[i].pred):=ldA (c:=0) hlo2 hlt (by omega)
 have l1:qL ⟨(nx,.cells [.str a.pred,qk a.args])::ob,n⟩ none (.ptr o (i*3+1))=some (.int A[i].args):=ldA (c:=1) hlo2 hlt (by omega)
 have l2:qL ⟨(nx,.cells [.str a.pred,qk a.args])::ob,n⟩ none (.ptr nx 0)=some (.str a.pred):=by simp[qL,qp,zb]
 have l3:qL ⟨(nx,.cells [.str a.pred,qk a.args])::ob,n⟩ none (.ptr nx 1)=some (qk a.args):=by simp[qL,qp,zb]
 have ia:=iaA (n:=n) hlo2 hlt
 cases hp:eqBA A[i].pred a.pred
 ·simp[em,hp]at he
  simp(disch:=omega)[-iaL,-qL,ia,l0,l1,l2,l3,hlt,hp,qi (show i<2^62 by omega)]
  exact⟨⟨i+1,n⟩,by dsimp only;omega,⟨by dsimp only;omega,by dsimp only;omega,he⟩,by simp[FT.Le,Wk],HWk.refl _,fun h=>h⟩
 by_cases hq:A[i].args=a.args.length
 ·simp[em,hp,hq]at he
  simp(disch:=omega)[-iaL,-qL,ia,l0,l1,l2,l3,hlt,hp,hq]
  rw[<-he]at hk
  exact⟨_,hfin,hfo,hk n (by omega)⟩
 ·simp[em,hp,hq]at he
  simp(disch:=omega)[-iaL,-qL,ia,l0,l1,l2,l3,hlt,hp,hq,qi (show i<2^62 by omega)]
  exact⟨⟨i+1,n⟩,by dsimp only;omega,⟨by dsimp only;omega,by dsimp only;omega,he⟩,by simp[FT.Le,Wk],HWk.refl _,fun h=>h⟩
def qbn(x:Lit):List Atom:=if x.kind<=2 then [x.atom] else []
def qbS(c:qf):List Atom:=c.head::c.body.flatMap qbn
def vl(l:List qf):List Atom:=l.flatMap qbS
theorem wW(G:List Atom):(G.map qd).all (fun e=>e.cells.length==2)=true:=by simp[LV.cells]
def zP(H:qa)(sz len:Nat)(own:Own)(ob:List (Nat×qc))(n:Nat):Prop:=(own=.full/\ob=H.objs/\H.next<=n)\/∃t,own=.tok t/\H.next<=t/\t<n/\ob=(t,.tok len sz)::H.objs
theorem qmA{H:qa}{sz:Nat}{es:List LV}{own:Own}{ob:List (Nat×qc)}{n:Nat}(hsz:0<sz/\sz<=2^10)(hes:(es.all fun e=>e.cells.length==sz)=true)(hl:es.length+1<=2^30)(h:zP H sz es.length own ob n){x:LV}(hx:x.cells.length=sz)(ow:Own):
  ∃own' ob' n',apL ⟨ob,n⟩ sz (.sl es own) (.sl [x] ow)=some (.sl (es++[x]) own',⟨ob',n'⟩)/\zP H sz (es.length+1) own' ob' n'/\n<=n':=by
 have hxs:([x].all fun e=>e.cells.length==sz)=true:=by
  show (x.cells.length==sz&&true)=true
  rw[hx];simp
 rcases h with⟨rfl,rfl,h⟩|⟨t,rfl,h1,h2,rfl⟩
 ·refine⟨.tok n,(n,.tok (es.length+1) sz)::H.objs,n+1,?_,.inr ⟨n,rfl,h,Nat.lt_succ_self _,rfl⟩,Nat.le_succ _⟩
  unfold apL
  simp only
  rw[hes,hxs]
  simp only[Bool.and_self,if_true]
  rw[if_pos ⟨hl,hsz.2,rfl⟩]
  rfl
 ·refine⟨.tok t,(t,.tok (es.length+1) sz)::H.objs,n,?_,.inr ⟨t,rfl,h1,h2,rfl⟩,Nat.le_refl _⟩
  have hcan:vd ⟨(t,.tok es.length sz)::H.objs,n⟩ sz (.tok t) es.length=true:=by
   have:sz≠0:=by omega
   simp[vd,look,this]
  unfold apL
  simp only
  rw[hes,hxs]
  simp only[Bool.and_self,if_true]
  rw[if_pos ⟨hl,hsz.2,hcan⟩]
  simp[qa.put,qx]
structure NNAs where
 i:Nat
 n:Nat
 aa:List Atom
 own:Own
 ob:List (Nat×qc)
def l72a:qo:=match qaX.body with
 |.seq _ (.seq _ (.seq x _))=>x
 |_=>.bad
theorem t_all(l:List qf)(hl:l.length<2^20)(hb:∀c∈l,c.body.length<2^20)(hA:(vl l).length<2^20)(H:qa):
  lP E0 F0 l72a (.nd (qt l) (.nd .bot (.nd (Nl) .nil .nil) .nil) .nil) H (fun e t' H'=>e=.normal/\∃own n,H.next<=n/\FT.Le (.nd .bot (.nd .bot (.nd (.sl ((vl l).map qd) own) .nil .nil) .nil) .nil) t'/\HWk H' ⟨H.objs,n⟩/\(H'.Ok->qa.Ok ⟨H.objs,n⟩)):=by
 refine qgV fun hH=>zS ?_
 simp(disch:=omega)[l72a,qaX]
 obtain⟨L,hL⟩:∃L,vl l=L:=⟨_,rfl⟩
 rw[hL]at hA ⊢
 refine qy (σ:=NNAs) (fun q=>(.nd (qt l) (.nd .bot (.nd (.sl (q.aa.map qd) q.own) .nil .nil) .nil) (.nd .bot (.nd (.int q.i) .nil .nil) .nil))) (fun q=>⟨q.ob,q.n⟩) (fun q=>l.length - q.i)
  (fun q=>zP H 2 q.aa.length q.own q.ob q.n/\H.next<=q.n/\q.i<=l.length/\q.aa++vl (l.drop q.i)=L) ⟨0,H.next,[],.full,H.objs⟩ ⟨.inl ⟨rfl,rfl,Nat.le_refl _⟩,Nat.le_refl _,Nat.zero_le _,hL⟩ (by simp[FT.Le,Wk]) ⟨HWk.refl _,fun h=>h⟩ ?_
 rintro⟨i,n,aa,own,ob⟩ ⟨hr,hn,hi,he⟩ hok
 dsimp only at hr hn hi he hok
 have hal:aa.length<2^20:=by
  have:=congrArg List.length he
  rw[List.length_append]at this
  omega
 by_cases hlt:i<l.length
 case neg=>
  rw[List.drop_eq_nil_of_le (by omega)]at he
  have he2:aa=L:=by simpa [vl] using he
  subst he2
  simp(disch:=omega)[hlt]
  refine⟨own,n,hn,by simp[FT.Le,Wk],⟨Nat.le_refl _,fun j x hx=>?_⟩,fun _=>qn.mono hH hn⟩
  rcases hr with⟨_,rfl,_⟩|⟨t,_,h1,h2,rfl⟩
  ·exact hx
  ·have:=hH.look hx
   simp only[look]
   rw[if_neg (by omega)]
   exact hx
 rw[List.drop_eq_getElem_cons hlt]at he
 have he1:aa++(qbS l[i]++vl (l.drop (i+1)))=L:=he
 have hbl:=hb _ (ub hlt)
 simp(disch:=omega)[hlt]
 refine qU ?_
 obtain⟨own1,ob1,n1,e1,hr1,hn1⟩:=qmA (H:=H) (sz:=2) (es:=aa.map qd) (by omega) (wW aa) (by rw[List.length_map];omega) (by rw[List.length_map];exact hr) (x:=qd l[i].head) rfl .full
 rw[List.length_map]at hr1
 simp(disch:=omega)
 rw[show apL ⟨ob,n⟩ 2 (.sl (aa.map qd) own) (.sl [.agg [.str l[i].head.pred,qk l[i].head.args]] .full)=_ from e1]
 simp(disch:=omega)
 obtain⟨Q,hQ⟩:∃Q,aa++qbS l[i]=Q:=⟨_,rfl⟩
 rw[<-List.append_assoc,hQ]at he1
 have hQl:Q.length<2^20:=by
  have:=congrArg List.length he1
  rw[List.length_append]at this
  omega
 refine qy (σ:=NNAs) (fun q=>(.nd (qt l) (.nd .bot (.nd (.sl (q.aa.map qd) q.own) .nil .nil) (.nd (.int q.i) .nil .nil)) (.nd .bot (.nd (.int i) .nil .nil) .nil))) (fun q=>⟨q.ob,q.n⟩) (fun q=>l[i].body.length - q.i)
  (fun q=>zP H 2 q.aa.length q.own q.ob q.n/\n<=q.n/\q.i<=l[i].body.length/\q.aa++(l[i].body.drop q.i).flatMap qbn=Q) ⟨0,n1,aa++[l[i].head],own1,ob1⟩
  ⟨by simp only[List.length_append,List.length_cons,List.length_nil];exact hr1,hn1,Nat.zero_le _,by rw[<-hQ];simp[qbS]⟩ (by simp[FT.Le,Wk]) ⟨HWk.refl _,fun h=>h⟩ ?_
 rintro⟨j,n2,aa2,own2,ob2⟩ ⟨hr2,hn2,hj,he2⟩ hok2
 dsimp only at hr2 hn2 hj he2 hok2
 have hal2:aa2.length<2^20:=by
  have:=congrArg List.length he2
  rw[List.length_append]at this
  omega
 by_cases hlt2:j<l[i].body.length
 case neg=>
  rw[List.drop_eq_nil_of_le (by omega)]at he2
  have he3:aa2=Q:=by simpa using he2
  subst he3
  simp(disch:=omega)[hlt,hlt2,qi (show i<2^62 by omega)]
  exact⟨⟨i+1,n2,aa2,own2,ob2⟩,by dsimp only;omega,⟨hr2,by dsimp only;omega,by dsimp only;omega,he1⟩,by simp[FT.Le,Wk],HWk.refl _,fun h=>h⟩
 rw[List.drop_eq_getElem_cons hlt2,List.flatMap_cons,<-List.append_assoc]at he2
 by_cases hk:l[i].body[j].kind<=2
 ·have e3:qbn l[i].body[j]=[l[i].body[j].atom]:=by simp[qbn,hk]
  rw[e3]at he2
  simp(disch:=omega)[hlt,hlt2,hk]
  refine qU ?_
  obtain⟨own3,ob3,n3,e4,hr3,hn3⟩:=qmA (H:=H) (sz:=2) (es:=aa2.map qd) (by omega) (wW aa2) (by rw[List.length_map];omega) (by rw[List.length_map];exact hr2) (x:=qd l[i].body[j].atom) rfl .full
  rw[List.length_map]at hr3
  simp(disch:=omega)
  rw[show apL ⟨ob2,n2⟩ 2 (.sl (aa2.map qd) own2) (.sl [.agg [.str l[i].body[j].atom.pred,qk l[i].body[j].atom.args]] .full)=_ from e4]
  simp(disch:=omega)[qi (show j<2^62 by omega)]
  exact⟨⟨j+1,n3,aa2++[l[i].body[j].atom],own3,ob3⟩,by dsimp only;omega,⟨by simp only[List.length_append,List.length_cons,List.length_nil];exact hr3,by dsimp only;omega,by dsimp only;omega,he2⟩,by simp[FT.Le,Wk],HWk.refl _,fun h=>h⟩
 ·have e3:qbn l[i].body[j]=[]:=by simp[qbn,hk]
  rw[e3,List.append_nil]at he2
  simp(disch:=omega)[hlt,hlt2,hk,qi (show j<2^62 by omega)]
  exact⟨⟨j+1,n2,aa2,own2,ob2⟩,by dsimp only;omega,⟨hr2,by dsimp only;omega,by dsimp only;omega,he2⟩,by simp[FT.Le,Wk],HWk.refl _,fun h=>h⟩
end Go.Abs.Tz
namespace Go.Abs.Tz
open Go Go.Abs Go.Proofs
theorem qxT(n:Nat)(t:Term):Bel n (qW t):=.agg fun i c h=>by
 match i with
 |0=>simp at h;subst h;exact .sc _
 |1=>simp at h;subst h;exact .sc _
 |2=>simp at h;subst h;exact .sc _
 |i+3=>simp at h
theorem qxU(n:Nat)(E:qq):∀(i:Nat)(kv:LV×LV),(qJ E)[i]? = some kv->Bel n kv.1/\Bel n kv.2:=by
 intro i kv h
 simp only[qJ,List.getElem?_map]at h
 obtain⟨e,_,rfl⟩:=Option.map_eq_some_iff.1 h
 exact⟨.sc _,qxT _ _⟩
theorem qsN(p a:Atom)(hp:p.ok)(ha:a.ok)(H:qa)(o:Nat)(K:qq)(hl:look o H.objs=some (.um (qJ K)))(hno:∀i m l k n,look i H.objs=some (.iter m l k n)->m≠o)(hKn:(uj K).Nodup)
  {kv kp:HP} (hk1:z1 K p a=none->kv (.sc (.map none)) H) (hk2:∀R,z1 K p a=some R->kv (.map (H.next+2)) ⟨(H.next+2,.um (qJ R))::H.objs,H.next+3⟩):
  cP E0 F0 159 [qd p,qd a,.map o] H kv kp:=by
 have h0:=qsM p a hp ha H o K hl hno hKn
 have putback:∀(K':qq)(G:qb)(w:World)(ob:List (Nat×qc))(n:Nat),K'.Perm K->look o ob=some (.map (qJ K'))->Inv G w ⟨ob,n⟩->Inv G w ⟨qx o (.um (qJ K)) ob,n⟩:=by
  intro K' G w ob n hp hlo hI
  have:=hI.toUm (es':=qJ K) hlo (hp.map _)
  exact this
 have hback:∀K':qq,qx o (.um (qJ K)) (qx o (.map (qJ K')) H.objs)=H.objs:=by
  intro K'
  rw[qcd,qgy hl]
 cases hb:z1 K p a with
 |none=>
  intro hH
  have h1:Out E0 F0 (.call 159 [qd p,qd a,.map o] H) (fun r=>∃K':qq,K'.Perm K/\∃n,r=.ret (.sc (.map none)) ⟨qx o (.map (qJ K')) H.objs,n⟩):=by
   refine .mono (h0 hH) fun r hr=>?_
   rcases hr with⟨u,H',rfl,_,K',hK,⟨_,rfl,n,rfl⟩|⟨R,R',hR,_⟩⟩|⟨u,H',rfl,_,hf⟩
   ·exact⟨K',hK,n,rfl⟩
   ·rw[hb]at hR;cases hR
   ·exact hf.elim
  have h2:qZ Tryz.prog E0 159 [qd p,qd a,.map o] H (fun r=>∃n,r=.ret (.sc (.map none)) ⟨H.objs,n⟩):=by
   refine(qbD qds qcl h1:qZ _ _ _ _ _ _).inv (fun v H' G' w' hT hI=>?_) (fun v H' hT=>?_)
   ·obtain⟨K',hK,n,hn⟩:=hT
    cases hn
    have:=putback K' G' w' _ n hK (vI hl) hI
    rw[hback]at this
    exact⟨_,this,n,rfl⟩
   ·obtain⟨K',hK,n,hn⟩:=hT
    cases hn
  exact .prim (h2.low (.sc _) (.inl ⟨_,H,rfl,hH,hk1 hb⟩))
 |some R=>
  intro hH
  have hon:o<H.next:=hH.look hl
  have h1:Out E0 F0 (.call 159 [qd p,qd a,.map o] H) (fun r=>∃K' R':qq,K'.Perm K/\R'.Perm R/\∃n,r=.ret (.map (H.next+2)) ⟨(H.next+2,.map (qJ R'))::qx o (.map (qJ K')) H.objs,n⟩):=by
   refine .mono (h0 hH) fun r hr=>?_
   rcases hr with⟨u,H',rfl,_,K',hK,⟨hn,_⟩|⟨R1,R',hR,hRp,rfl,n,rfl⟩⟩|⟨u,H',rfl,_,hf⟩
   ·rw[hb]at hn;cases hn
   ·rw[hb]at hR;cases hR
    exact⟨K',R',hK,hRp,n,rfl⟩
   ·exact hf.elim
  have h2:qZ Tryz.prog E0 159 [qd p,qd a,.map o] H (fun r=>∃n,r=.ret (.map (H.next+2)) ⟨(H.next+2,.um (qJ R))::H.objs,n⟩):=by
   refine(qbD qds qcl h1:qZ _ _ _ _ _ _).inv (fun v H' G' w' hT hI=>?_) (fun v H' hT=>?_)
   ·obtain⟨K',R',hK,hR,n,hn⟩:=hT
    cases hn
    have h3:=putback K' G' w' _ n hK (by rw[qe (by omega)];exact vI hl) hI
    rw[ux (by omega),hback]at h3
    have h4:=h3.toUm (o:=H.next+2) (es':=qJ R) (qp _ _ _) (hR.map _)
    rw[uC]at h4
    exact⟨_,h4,n,rfl⟩
   ·obtain⟨K',R',hK,hR,n,hn⟩:=hT
    cases hn
  refine .prim (h2.low2 (n0:=H.next+3) (by omega) (.map (by omega)) (fun i x hx=>?_) (.inl ⟨_,_,rfl,⟨Nat.lt_succ_self _,qn.mono hH (by omega)⟩,hk2 R hb⟩))
  simp only[look]at hx
  split at hx
  ·rename_i hi
   subst hi
   simp only[Option.some.injEq]at hx
   subst hx
   exact .inr ⟨by omega,qxU _ _⟩
  ·exact .inl hx
end Go.Abs.Tz
namespace Go.Abs.Tz
open Go Go.Abs Go.Proofs
set_option maxRecDepth 20000
set_option linter.unusedSimpArgs false
attribute [local simp ↓] yb ya jv ju gI ut zg zB jr up yP yQ yc ye yf yd jA jD jG jB jH jI jE jF jC jy jw jz jx yN yL yO yM g7 gZ g8 g6 yk yh yj uu zx jL zh z7 gL yS yT yo yq yp ym yn yz jO jT jW jS jU jV gy gx j5 j7 jb uZ jm jp u9 jh jl jk jj ji jf uV uW uX uY jn jd je uT jo jq ja jc jg uU gb j6 gu gC j8 gj gt gq gp gk gh j0 gw gf gg jX gA gD j9 gd gi jY gG gz jZ gF ge ga gc j3 gv jP jR jQ yu yx yt yv yw qp uL
attribute [local simp] faL fdL iaL ixL qL zb qV eqK eqL qR zo uO yr yK yA yC yE yG yI yJ yB yF yD yH zC LV.cells LV.whole qp uC uw jM stL zF zR uq qa.alloc gJ gH gK gY gW gV gU gT gS gQ gO gN gM qe ux
def l42:qo:=match b95.body with
 |.seq _ (.seq _ (.seq _ (.seq _ (.seq l _))))=>l
 |_=>.bad
def r42:qo:=match b95.body with
 |.seq _ (.seq _ (.seq _ (.seq _ (.seq _ r))))=>r
 |_=>.bad
def mx(a b:Int):Int:=if b > a then b else a
def uF(t:Int)(l:List Int):Int:=l.foldl mx t
theorem quN(t a b:Int):mx (mx t a) b=mx (mx t b) a:=by
 unfold mx
 repeat' split
 all_goals omega
theorem quZ{l m:List Int}(h:l.Perm m):∀t,uF t l=uF t m:=by
 induction h with
 |nil=>intro t;rfl
 |cons x _ ih=>intro t;exact ih (mx t x)
 |swap x y l=>
  intro t
  show uF (mx (mx t y) x) l=uF (mx (mx t x) y) l
  rw[quN]
 |trans _ _ ih1 ih2=>intro t;rw[ih1,ih2]
structure NNM where
 left:List Nat
 cur:Option Nat
 top:Int
theorem quY(v0 v7:LV)(o:Nat)(ms:List (LV×Int))(top:Int)(H:qa)(hl:look o H.objs=some (.map (ms.map fun e=>(e.1,.int e.2)))):
  lP E0 F0 l42 (.nd (v0) (.nd .bot (.nd .bot (.nd (v7) .nil .nil) .nil) (.nd .bot (.nd (.int top) .nil .nil) .nil)) (.nd .bot .nil (.nd (.map o) .nil .nil))) H (fun e t' H'=>e=.normal/\FT.Le (.nd (v0) (.nd .bot (.nd .bot (.nd (v7) .nil .nil) .nil) (.nd .bot (.nd (.int (uF top (ms.map (·.2)))) .nil .nil) .nil)) (.nd .bot .nil (.nd (.map o) .nil .nil))) t'/\HWk H' ⟨H.objs,H.next+1⟩/\(H'.Ok->qa.Ok ⟨H.objs,H.next+1⟩)):=by
 refine zS ?_
 obtain⟨ob,N⟩:=H
 dsimp only at hl ⊢
 obtain⟨M,hM⟩:∃M,uF top (ms.map (·.2))=M:=⟨_,rfl⟩
 rw[hM]
 simp(disch:=omega)[l42,b95,rgL,hl]
 refine qy (σ:=NNM) (fun q=>(.nd (v0) (.nd .bot (.nd .bot (.nd (v7) .nil .nil) .nil) (.nd .bot (.nd (.int q.top) .nil .nil) .nil)) (.nd .bot .nil (.nd (.map o) .nil (.nd .bot .nil (.nd (.ptr N 0) .nil .nil))))))
  (fun q=>⟨(N,.iter o q.left q.cur ms.length)::ob,N+1⟩) (fun q=>q.left.length)
  (fun q=>uF q.top (q.left.filterMap (fun k=>(ms.map (·.2))[k]?))=M) ⟨List.range ms.length,none,top⟩ ?_ (by simp[FT.Le,Wk]) ⟨HWk.refl _,fun h=>h⟩ ?_
 ·dsimp only
  rw[<-hM]
  congr 1
  have:=qmP (ms.map (·.2))
  rwa [List.length_map]at this
 rintro⟨left,cur,tp⟩ hT hok
 dsimp only at hT hok
 have hlt:o<N:=by
  have h2:qa.Ok ⟨ob,N⟩:=hok.2
  exact h2.look hl
 simp(disch:=omega)
 by_cases hl0:left=[]
 ·refine⟨N,o,left,cur,ms.length,rfl,by simp[qp],.inl ⟨hl0,.inr ⟨_,by rw[qe (by omega)];exact hl,by simp⟩,?_⟩⟩
  subst hl0
  simp only[List.filterMap_nil]at hT
  have hT':tp=M:=hT
  simp(disch:=omega)[hT']
  have hB:qa.Ok ⟨ob,N⟩:=hok.2
  exact⟨by simp[FT.Le,Wk],uf hB⟩
 ·refine⟨N,o,left,cur,ms.length,rfl,by simp[qp],.inr ⟨hl0,_,by rw[qe (by omega)];exact hl,by simp,fun j k e hj hk=>?_⟩⟩
  obtain⟨v,hv,rfl⟩:∃v,ms[k]? = some v/\e=(v.1,.int v.2):=by
   simp only[List.getElem?_map]at hk
   obtain⟨v,h1,h2⟩:=Option.map_eq_some_iff.1 hk
   exact⟨v,h1,h2.symm⟩
  have hjl:j<left.length:=(List.getElem?_eq_some_iff.1 hj).1
  have hfe:(left.filterMap (fun k=>(ms.map (·.2))[k]?)).Perm (v.2::(left.eraseIdx j).filterMap (fun k=>(ms.map (·.2))[k]?)):=by
   have:=(qiN left j k hj).filterMap (fun k=>(ms.map (·.2))[k]?)
   rwa [List.filterMap_cons_some (by rw[List.getElem?_map,hv];rfl)]at this
  rw[quZ hfe]at hT
  have hT':uF (mx tp v.2) ((left.eraseIdx j).filterMap (fun k=>(ms.map (·.2))[k]?))=M:=hT
  simp(disch:=omega)[enL,hl,hv]
  refine⟨⟨left.eraseIdx j,some k,mx tp v.2⟩,by dsimp only;rw[List.length_eraseIdx_of_lt hjl];omega,by simpa using hT',?_,HWk.refl _,fun h=>h⟩
  simp[FT.Le,Wk,mx]
end Go.Abs.Tz
