/- Part of the proof that the law CustomKeepsYears holds. Conditions: none. -/
import Derived.Test.YtjbhehjoaalhiaaGreatDoorPartN
import Derived.Test.YtjbhehjoaalhiaaGreatDoorPartH
import Derived.Test.YtjbhehjoaalhiaaGreatDoorPartJ
import Derived.Test.YtjbhehjoaalhiaaGreatDoorPartC
import Derived.RangeFuncRecord
import Derived.RecoverIn
import Derived.Test.YtjbhehjoaalhiaaGreatDoorPartG
import Derived.KernelRfl
set_option linter.unusedVariables false
set_option linter.unusedSimpArgs false
set_option linter.unusedSectionVars false
namespace Go.Abs.Tz
open Go Go.Abs Go.Proofs
set_option maxRecDepth 20000
set_option linter.unusedSimpArgs false
attribute [local simp ↓] gF gD uZ uY gd zX qW zk uX zU yq yr gG gI gJ gH jd jg jj je jk jl jh ji jf jb u9 jc ja yo ym yp yn gA gy gC gz gM gK gL ue zz jm qS jn gg yt yu gQ gT gS gN gO g8 jp jw jz jv jx jy j5 j3 jF jH uH uE uS uV uF uN uR uQ uP uO uL uA uB uC uD uT uJ uK uy uU uW uG uI uM uz jL jG jY j8 jI jT jX jW jV jU jR jD j0 jP jQ jA j7 j9 jJ jN jS jB gb j6 jC ga jO jK jM jE jZ jq ju jr gY g7 gW gZ g6 qm uo
attribute [local simp] faL fdL iaL ixL za q9 qN eqK eqL qL ze ut gV yk g9 yb yd yf yh yj ya ye yc yg zr LV.cells LV.whole qm uf zK jo stL zw zF zV qa.alloc ge gc gf gw gv gu gt gq gp gk gj gi gh qd ug
theorem vA.noit{H:qa}{sz len:Nat}{own:Own}{ob:List (Nat×qc)}{n:Nat}(hni:qK H.objs)(h:vA H sz len own ob n):qK ob:=by
 rcases h with⟨_,rfl,_⟩|⟨t,_,_,_,rfl⟩
 ·exact hni
 ·exact hni.cons _ rfl
structure qej(l:List qf)(base:List Atom):Prop extends CustIn l where
 pos3:l.length<=30->∀c∈l,c.cls.length<=40->∀k∈c.cls,(qT k.body).length<=3
 hb:base.length<2^63
 hok:base.length<=100->∀a∈base,a.ok
section
variable{l:List qf}{base:List Atom}
theorem qdh(hI:qej l base){y:Int}(h:zo l y=0)(x w:Int):RIn (ql l x w) base/\∃fuel R,qem (ql l x w) fuel R base/\qfE (ql l x w) R base:=by
 obtain⟨hcu,_⟩:=qcD h
 obtain⟨hC,_,h30⟩:=qbT hcu
 have h40:∀c∈l,c.cls.length<=40:=fun c hc=>(qfv (hC.ok c hc).2).1
 have hS:qbb (ql l x w):=⟨fun _ k hk=>by
  obtain⟨c,hc,hkc⟩:=qgu hk
  exact(hI.sm h30 c hc).ok3 (h40 c hc) k hkc⟩
 obtain⟨fuel,R,hR,hRb,hM⟩:=qtL (ql l x w) base
 exact⟨⟨hS,fun _ k hk=>by
  obtain⟨c,hc,hkc⟩:=qgu hk
  exact hI.pos3 h30 c hc (h40 c hc) k hkc,hI.hb,hI.hok⟩,fuel,R,⟨hS,hR,hRb,hI.hb,hI.hok⟩,hM⟩
structure NNcS where
 i:Nat
 n:Nat
 out:List Int
 own:Own
 ob:List (Nat×qc)
theorem qsm{A:List qf}{y:Int}{base:List Atom}{a:Atom}{now:Bool}{l:List qf}{i:Nat}(h:i<l.length)(out:List Int):
  ws A y base a now (l.drop i) out=if l[i].fr<=y/\y<=l[i].to then (if v8 (ql A y l[i].id) base a≠0 then ([],v8 (ql A y l[i].id) base a) else
   ws A y base a now (l.drop (i+1)) (if z1 (ql A y l[i].id) base a=now then out else out++[l[i].id])) else ws A y base a now (l.drop (i+1)) out:=by
 rw[List.drop_eq_getElem_cons h]
 rfl
set_option maxHeartbeats 1000000 in
theorem wI(hI:qej l base)(own ownB:Own)(y:Int)(a:Atom)(ha:a.ok)(ob:List (Nat×qc))(n:Nat)(hni:qK ob){kv kp:HP}
  (hk:∀(ow:Own) n',n<=n'->kv (.tup [.sl (ui (zt l base y a).1) ow,.int (zt l base y a).2]) ⟨ob,n'⟩):
  cP E0 F0 22 [.sl (l.map qA) own,.sl (base.map qh) ownB,.int y,qh a] ⟨ob,n⟩ kv kp:=by
 refine ub c22 fun hH=>⟨Nat.le_of_ble_eq_true rfl,?_⟩
 have hOb:qt ob n:=hH
 obtain⟨V,hV⟩:∃V,zt l base y a=V:=⟨_,rfl⟩
 rw[hV]at hk
 have fin:∀(m:Nat)(x:qc)(ow:Own)(v1:List Int)(v2:Int),n<=m->V=(v1,v2)->∃H'',HWk ⟨(n,x)::ob,m⟩ H''/\(qa.Ok ⟨(n,x)::ob,m⟩->H''.Ok)/\kv (.tup [.sl (ui v1) ow,.int v2]) H'':=fun m x ow v1 v2 hm e=>by
  subst e
  exact⟨⟨ob,m⟩,vl hOb (Nat.le_refl _),fun _=>hOb.mono hm,hk ow m hm⟩
 unfold zt at hV
 simp(disch:=omega)[b22]
 refine(qeB l own y hI.toCustIn).go fun n1 hn1=>?_
 by_cases h1:zo l y=0
 case neg=>
  rw[if_pos h1]at hV
  simp(disch:=omega)[h1]
  exact fin _ _ .full [] _ (by omega) hV.symm
 rw[if_neg (by simpa using h1)]at hV
 rw[h1]
 simp(disch:=omega)
 refine qkA base ownB hI.hb hI.hok _ _ (hni.cons _ rfl) fun n2 hn2=>?_
 by_cases h2:gE base=0
 case neg=>
  rw[if_pos h2]at hV
  simp(disch:=omega)[h2]
  exact fin _ _ .full [] _ (by omega) hV.symm
 rw[if_neg (by simpa using h2)]at hV
 rw[h2]
 simp(disch:=omega)
 refine(qeA a ha).go fun n3 hn3=>?_
 have ret1:zn a=false->V=([],1):=fun h=>by rw[if_pos h]at hV;exact hV.symm
 cases ho:qR a
 ·have hb0:zn a=false:=by simp[zn,ho]
  simp(disch:=omega)
  exact fin _ _ .full [] 1 (by omega) (ret1 hb0)
 simp(disch:=omega)
 refine(qhr a ha).go fun n4 hn4=>?_
 cases hg:a.args.all ww
 ·have hb0:zn a=false:=by simp[zn,hg]
  simp(disch:=omega)
  exact fin _ _ .full [] 1 (by omega) (ret1 hb0)
 have hb1:zn a=true:=by simp[zn,ho,hg]
 rw[if_neg (by rw[hb1];simp)]at hV
 obtain⟨hl30,_⟩:=qbX h1 y 0
 have hfl:=fun w=>(qbX h1 y w).2
 have k1:look n ((n,qc.cells [.str a.pred,qz a.args])::ob)=some (.cells [.str a.pred,qz a.args]):=qm _ _ _
 simp(disch:=omega)[k1]
 refine(qdB l own y 0 (by omega) (by have:=hfl 0;omega)).go fun n5 hn5=>?_
 obtain⟨_,fuel,R,hMI,hM⟩:=qdh hI h1 y 0
 simp(disch:=omega)[k1]
 refine wJ hMI hM ownB a ha _ _ (hni.cons _ rfl) fun n6 hn6=>?_
 by_cases h3:v8 (ql l y 0) base a=0
 case neg=>
  rw[if_pos h3]at hV
  simp(disch:=omega)[h3]
  exact fin _ _ .full [] _ (by omega) hV.symm
 rw[if_neg (by simpa using h3)]at hV
 obtain⟨now,hnow⟩:∃x,z1 (ql l y 0) base a=x:=⟨_,rfl⟩
 rw[hnow]at hV
 rw[hnow,h3]
 simp(disch:=omega)
 have hH1:qa.Ok ⟨(n,.cells [.str a.pred,qz a.args])::ob,n+1⟩:=⟨Nat.lt_succ_self _,hOb⟩
 refine qE (σ:=NNcS) (fun q=>(.nd (.sl (l.map qA) own) (.nd (.sl (base.map qh) ownB) (.nd .bot (.nd (.ptr n 0) .nil .nil) (.nd .bot (.nd .bot .nil (.nd (.int l.length) .nil .nil)) .nil)) .nil) (.nd (.int y) (.nd .bot .nil (.nd (.bool now) (.nd .bot .nil (.nd (.int q.i) .nil .nil)) .nil)) (.nd .bot (.nd .bot (.nd .bot .nil (.nd (.sl (l.map qA) own) .nil .nil)) .nil) (.nd (.sl (ui q.out) q.own) .nil .nil))))) (fun q=>⟨q.ob,q.n⟩) (fun q=>l.length - q.i)
  (fun q=>vA ⟨(n,.cells [.str a.pred,qz a.args])::ob,n+1⟩ 1 q.out.length q.own q.ob q.n/\n+1<=q.n/\q.i<=l.length/\q.out.length<=q.i/\ws l y base a now (l.drop q.i) q.out=V) ⟨0,n6,[],.full,(n,.cells [.str a.pred,qz a.args])::ob⟩ ⟨.inl ⟨rfl,rfl,by dsimp only;omega⟩,by dsimp only;omega,Nat.zero_le _,Nat.le_refl _,hV⟩ (by simp[FT.Le,Wk]) ⟨HWk.refl _,fun h=>h⟩ ?_
 rintro⟨i,m,out,ow,ob2⟩ ⟨hr,hm,hi,hol,he⟩ hok
 dsimp only at hr hm hi hol he hok
 have hold:=hr.old
 dsimp only at hold
 have kq:∀x:qc,look n ((m,x)::ob2)=some (.cells [.str a.pred,qz a.args]):=fun x=>by rw[qd (by omega),hold.2 n (by omega)];exact qm _ _ _
 have holdq:∀(x:qc)(j:Nat),j<n->look j ((m,x)::ob2)=look j ob:=fun x j hj=>by rw[qd (by omega),hold.2 j (by omega),qd (by omega)]
 have finq:∀(q:Nat)(x:qc)(ow:Own)(v1:List Int)(v2:Int),n<=q->V=(v1,v2)->∃H'',HWk ⟨(m,x)::ob2,q⟩ H''/\(qa.Ok ⟨(m,x)::ob2,q⟩->H''.Ok)/\kv (.tup [.sl (ui v1) ow,.int v2]) H'':=fun q x ow v1 v2 hq e=>by
  subst e
  exact⟨⟨ob,q⟩,qde hH (holdq x) (Nat.le_refl _),fun _=>hOb.mono hq,hk ow q hq⟩
 by_cases hlt:i<l.length
 case neg=>
  rw[List.drop_eq_nil_of_le (by omega)]at he
  have he2:V=(out,0):=he.symm
  simp(disch:=omega)[hlt]
  subst he2
  exact⟨⟨ob,m⟩,qde hH (fun j hj=>by rw[hold.2 j (by omega),qd (by omega)]) (Nat.le_refl _),fun _=>hOb.mono (by dsimp only;omega),hk ow m (by omega)⟩
 rw[qsm hlt]at he
 have hok2:qt ob2 m:=hok
 simp(disch:=omega)[hlt]
 refine(qey y l[i].fr l[i].to).go fun m2 hm2=>?_
 obtain⟨B,hB⟩:∃B,(decide (l[i].fr<=y)&&decide (y<=l[i].to))=B:=⟨_,rfl⟩
 rw[hB]
 cases B
 ·have hf:¬(l[i].fr<=y/\y<=l[i].to):=fun h=>by rw[decide_eq_true h.1,decide_eq_true h.2]at hB;cases hB
  rw[if_neg hf]at he
  simp(disch:=omega)[qw (show i<2^62 by omega)]
  exact⟨⟨i+1,m2,out,ow,ob2⟩,by dsimp only;omega,⟨hr.mono (by dsimp only;omega),by dsimp only;omega,by dsimp only;omega,by dsimp only;omega,he⟩,by simp[FT.Le,Wk],vl hok2 (Nat.le_refl _),fun _=>hok2.mono (by dsimp only;omega)⟩
 have hf:l[i].fr<=y/\y<=l[i].to:=by
  rw[Bool.and_eq_true,decide_eq_true_iff,decide_eq_true_iff]at hB
  exact hB
 rw[if_pos hf]at he
 simp(disch:=omega)[kq]
 refine(qdB l own y l[i].id (by omega) (by have:=hfl l[i].id;omega)).go fun m3 hm3=>?_
 obtain⟨_,fuel2,R2,hMI2,hM2⟩:=qdh hI h1 y l[i].id
 simp(disch:=omega)[kq]
 refine wJ hMI2 hM2 ownB a ha _ _ ((hr.noit (hni.cons _ rfl)).cons _ rfl) fun m4 hm4=>?_
 by_cases h4:v8 (ql l y l[i].id) base a=0
 case neg=>
  rw[if_pos h4]at he
  simp(disch:=omega)[h4]
  exact finq _ _ .full [] _ (by omega) he.symm
 rw[if_neg (by simpa using h4)]at he
 rw[h4]
 obtain⟨now2,hnow2⟩:∃x,z1 (ql l y l[i].id) base a=x:=⟨_,rfl⟩
 rw[hnow2]at he ⊢
 by_cases hs:now2=now
 ·rw[if_pos hs]at he
  simp(disch:=omega)[hs,qw (show i<2^62 by omega)]
  exact⟨⟨i+1,m4,out,ow,ob2⟩,by dsimp only;omega,⟨hr.mono (by dsimp only;omega),by dsimp only;omega,by dsimp only;omega,by dsimp only;omega,he⟩,by simp[FT.Le,Wk],vl hok2 (Nat.le_refl _),fun _=>hok2.mono (by dsimp only;omega)⟩
 ·rw[if_neg hs]at he
  have hs1:(now2==now)=false:=by simpa using hs
  have hs2:(!now2==now)=true:=by cases now2<;>cases now<;>first|rfl|exact absurd rfl hs
  simp(disch:=omega)[hs,hs1,hs2]
  refine qbS ?_
  simp(disch:=omega)
  obtain⟨own2,ob3,ob4,m5,e1,hr3,hn3,hw3,ho3⟩:=qhK (m:=m) (k:=m4) (cs:=.cells [.int l[i].id,.int l[i].fr,.int l[i].to,qF l[i].cls]) hH1 (sz:=1) (es:=ui out) (Y:=[.int l[i].id]) (by omega) (qux out) rfl (by rw[List.length_map,List.length_singleton];omega) (by rw[List.length_map];exact hr) (Nat.le_refl _) (by omega)
  rw[List.length_map,List.length_singleton]at hr3
  have e2:ui out++[.int l[i].id]=ui (out++[l[i].id]):=by simp
  rw[e2]at e1
  rw[e1]
  simp(disch:=omega)[qw (show i<2^62 by omega)]
  exact⟨⟨i+1,m5,out++[l[i].id],own2,ob4⟩,by dsimp only;omega,⟨by rw[List.length_append,List.length_singleton];exact hr3,by dsimp only;omega,by dsimp only;omega,by simp;omega,he⟩,by simp[FT.Le,Wk],hw3,ho3⟩
end
section
variable{l:List qf}{base:List Atom}
def qM(l:List qf)(base:List Atom)(y i:Int):List Atom×List Atom×Int:=(zM l base y i,zN l base y i,wC l base y i)
theorem qox{l:List qf}{base:List Atom}{y i:Int}(h:wC l base y i≠0):qM l base y i=([],[],wC l base y i):=by
 unfold qM zM zN
 rw[if_pos h,if_pos h]
theorem qow{l:List qf}{base:List Atom}{y i:Int}(h:wC l base y i=0):qM l base y i=(vf (zZ (ql l y 0) base) (zZ (ql l y i) base),vf (zZ (ql l y i) base) (zZ (ql l y 0) base),0):=by
 unfold qM zM zN
 rw[if_neg (by omega),if_neg (by omega),h]
set_option maxHeartbeats 1000000 in
theorem qaa(hI:qej l base)(own ownB:Own)(y i:Int)(ob:List (Nat×qc))(n:Nat)(hni:qK ob){kv kp:HP}
  (hk:∀(o1 o2:Own) n',n<=n'->kv (.tup [.sl ((qM l base y i).1.map qh) o1,.sl ((qM l base y i).2.1.map qh) o2,.int (qM l base y i).2.2]) ⟨ob,n'⟩):
  cP E0 F0 24 [.sl (l.map qA) own,.sl (base.map qh) ownB,.int y,.int i] ⟨ob,n⟩ kv kp:=by
 refine ub c24 fun hH=>⟨Nat.le_of_ble_eq_true rfl,?_⟩
 have hOb:qt ob n:=hH
 have fin:∀(m:Nat)(x:qc)(o1 o2:Own)(v1 v2:List Atom)(v3:Int),n<=m->qM l base y i=(v1,v2,v3)->∃H'',HWk ⟨(n,x)::ob,m⟩ H''/\(qa.Ok ⟨(n,x)::ob,m⟩->H''.Ok)/\kv (.tup [.sl (v1.map qh) o1,.sl (v2.map qh) o2,.int v3]) H'':=fun m x o1 o2 v1 v2 v3 hm e=>by
  rw[e]at hk
  exact⟨⟨ob,m⟩,vl hOb (Nat.le_refl _),fun _=>hOb.mono hm,hk o1 o2 m hm⟩
 have err:∀e:Int,wC l base y i=e->e≠0->qM l base y i=([],[],e):=fun e h h0=>by rw[<-h]at h0 ⊢;exact qox h0
 obtain⟨E,hE⟩:∃E,wC l base y i=E:=⟨_,rfl⟩
 have hE0:=hE
 unfold wC at hE
 simp(disch:=omega)[b24]
 refine(qeB l own y hI.toCustIn).go fun n1 hn1=>?_
 by_cases h1:zo l y=0
 case neg=>
  rw[if_pos h1]at hE
  simp(disch:=omega)[h1]
  exact fin _ _ .full .full [] [] _ (by omega) (err _ (by rw[hE0,hE]) h1)
 rw[if_neg (by simpa using h1)]at hE
 obtain⟨hl30,_⟩:=qbX h1 y 0
 have hfl:=fun w=>(qbX h1 y w).2
 rw[h1]
 simp(disch:=omega)
 refine qhu l (by omega) own 78 (fun x=>decide (x.id=i)) n _ _ (fun x _ n' kv kp hn' hk=>qrm x i n _ n' (qm _ _ _) hk) fun n2 hn2=>?_
 obtain⟨B,hB⟩:∃B,qcv l i=B:=⟨_,rfl⟩
 have hB':(l.any fun x=>decide (x.id=i))=B:=hB
 rw[hB']
 rw[hB]at hE
 cases B
 ·rw[if_pos rfl]at hE
  simp(disch:=omega)
  exact fin _ _ .full .full [] [] 5 (by omega) (err _ (by rw[hE0,<-hE]) (by decide))
 rw[if_neg (by simp)]at hE
 simp(disch:=omega)
 refine qkA base ownB hI.hb hI.hok _ _ (hni.cons _ rfl) fun n3 hn3=>?_
 by_cases h2:gE base=0
 case neg=>
  rw[if_pos h2]at hE
  simp(disch:=omega)[h2]
  exact fin _ _ .full .full [] [] _ (by omega) (err _ (by rw[hE0,hE]) h2)
 rw[if_neg (by simpa using h2)]at hE
 rw[h2]
 simp(disch:=omega)
 refine(qdB l own y 0 (by omega) (by have:=hfl 0;omega)).go fun n4 hn4=>?_
 obtain⟨_,fuel,R,hMI,hM⟩:=qdh hI h1 y 0
 simp(disch:=omega)
 refine qkN hMI hM ownB _ _ (hni.cons _ rfl) fun o1 n5 hn5=>?_
 by_cases h3:yK (ql l y 0) base=0
 case neg=>
  rw[if_pos h3]at hE
  simp(disch:=omega)[h3]
  exact fin _ _ .full .full [] [] _ (by omega) (err _ (by rw[hE0,hE]) h3)
 rw[if_neg (by simpa using h3)]at hE
 rw[h3]
 simp(disch:=omega)
 refine(qdB l own y i (by omega) (by have:=hfl i;omega)).go fun n6 hn6=>?_
 obtain⟨_,fuel2,R2,hMI2,hM2⟩:=qdh hI h1 y i
 simp(disch:=omega)
 refine qkN hMI2 hM2 ownB _ _ (hni.cons _ rfl) fun o2 n7 hn7=>?_
 by_cases h4:yK (ql l y i) base=0
 case neg=>
  simp(disch:=omega)[h4]
  exact fin _ _ .full .full [] [] _ (by omega) (err _ (by rw[hE0,hE]) h4)
 rw[h4]
 have hz:wC l base y i=0:=by rw[hE0,<-hE,h4]
 have g1:∀a∈zZ (ql l y 0) base,a.ok:=fun a h=>qfy (hM.good a h).1
 have g2:∀a∈zZ (ql l y i) base,a.ok:=fun a h=>qfy (hM2.good a h).1
 have L1:=hM.len
 have L2:=hM2.len
 have hv:=qow hz
 obtain⟨A1,hA1⟩:∃A,zZ (ql l y 0) base=A:=⟨_,rfl⟩
 obtain⟨A2,hA2⟩:∃A,zZ (ql l y i) base=A:=⟨_,rfl⟩
 rw[hA1,hA2]at hv
 rw[hA1]at g1 L1 ⊢
 rw[hA2]at g2 L2 ⊢
 simp(disch:=omega)
 refine(qkw A1 A2 o1 o2 (by omega) (by omega) g1 g2).go fun n8 hn8=>?_
 simp(disch:=omega)
 refine(qkw A2 A1 o2 o1 (by omega) (by omega) g2 g1).go fun n9 hn9=>?_
 simp(disch:=omega)
 exact fin _ _ .no .no _ _ 0 (by omega) hv
structure NNcE where
 i:Nat
 n:Nat
 is:Bool
end
end Go.Abs.Tz
namespace Go.Abs.Tz
open Go Go.Abs Go.Proofs
noncomputable def tabP:List (FuncId×FnI):=[
 (121,⟨b121,5,false,false,false⟩),
 (108,⟨b108,6,false,false,false⟩),
 (122,⟨b122,7,false,false,false⟩),
 (55,⟨b55,7,false,false,false⟩),
 (9,⟨b9,5,false,false,false⟩),
 (43,⟨b43,4,false,false,false⟩),
 (44,⟨b44,4,false,false,false⟩),
 (48,⟨b48,6,false,true,false⟩),
 (49,⟨b49,5,false,true,false⟩),
 (11,⟨b11,5,false,false,false⟩),
 (106,⟨b106,3,false,true,false⟩),
 (107,⟨b107,6,false,false,false⟩),
 (50,⟨b50,6,false,false,false⟩),
 (54,⟨b54,5,false,true,false⟩),
 (164,⟨b164,8,false,false,false⟩),
 (109,⟨b109,5,false,false,false⟩),
 (110,⟨b110,4,false,false,false⟩),
 (70,⟨b70,4,false,false,false⟩),
 (165,⟨b165,5,false,false,false⟩),
 (166,⟨b166,3,false,false,false⟩),
 (167,⟨b167,4,false,false,false⟩),
 (168,⟨b168,4,false,false,false⟩),
 (169,⟨b169,4,false,false,false⟩),
 (170,⟨b170,4,false,false,false⟩),
 (173,⟨b173,5,false,false,false⟩),
 (174,⟨b174,6,false,false,false⟩),
 (131,⟨b131,4,false,false,false⟩)]
def qfa:List (FuncId×FnI)->FuncId->Option FnI
 |[],_=>none
 |(g,i)::r,f=>match Nat.beq g f with
  |true=>some i
  |false=>qfa r f
def allP:List (FuncId×FnI)->Prop
 |[]=>True
 |(g,i)::r=>qi Tryz.prog g=some i.b/\allP r
theorem qmM:∀{l:List (FuncId×FnI)},allP l->∀f i,qfa l f=some i->F0.fn f i.b
 |[],_,_,_,h=>by cases h
 |(g,j)::r,h,f,i,hl=>by
  unfold qfa at hl
  split at hl
  ·rename_i he
   cases hl
   rw[<-Nat.eq_of_beq_eq_true he];exact h.1
  ·exact qmM h.2 f i hl
theorem qqA:allP tabP:=⟨c121,c108,c122,c55,c9,c43,c44,c48,c49,c11,c106,c107,c50,c54,c164,c109,c110,c70,c165,c166,c167,c168,c169,c170,c173,c174,c131,trivial⟩
end Go.Abs.Tz
set_option maxRecDepth 20000
namespace Go.Abs.Tz
open Go Go.Abs Go.Proofs
end Go.Abs.Tz
namespace Go.Abs.Tz
open Go Go.Abs Go.Proofs
def qsa(s:ByteArray):Bool:=Nat.ble s.size 1000000
theorem qsB{f:FuncId}{args:List LV}{H:qa}{kv kp:HK}(h:cP E0 F0 f args H (fun v H'=>kv v H'=true) (fun v H'=>kp v H'=true))(hH:H.Ok):Out E0 F0 (.call f args H) (CS kv kp):=
 .mono (h hH) fun r hr=>hr
abbrev qek:=List LV->qa->HK->HK->Bool
theorem qlW{f:FuncId}{args:List LV}{v:LV}(h:qg f args v)(hv:Bel 0 v){H:qa}{kv kp:HK}(hH:H.Ok)(hk:kv v H=true):Out E0 F0 (.call f args H) (CS kv kp):=qsB (h.x hv hk) hH
noncomputable def qia:qek:=fun args H kv _=>match args with
 |[.sc (.string s),.sc (.int .u8 c)]=>kInt .i64 (Lib.indexByte s.data.toList c.toNat.toUInt8) fun v=>kv v H
 |_=>false
theorem qsF{args:List LV}{H:qa}{kv kp:HK}(hH:H.Ok)(h:qia args H kv kp=true):Out E0 F0 (.call 172 args H) (CS kv kp):=by
 unfold qia at h
 split at h
 ·rw[qiC]at h
  exact qlW (qrd _ _) (.sc _) hH h
 ·cases h
noncomputable def qib:qek:=fun args H kv _=>match args with
 |[.sc (.string s)]=>match Lib.atoiAll s.data.toList with
  |.ok v=>zC (qsa s) (qgM v fun v=>kv (.tup [.sc (.int .i64 v),.sc .nilIface]) H)
  |_=>false
 |_=>false
theorem qsG{args:List LV}{H:qa}{kv kp:HK}(hH:H.Ok)(h:qib args H kv kp=true):Out E0 F0 (.call 171 args H) (CS kv kp):=by
 unfold qib at h
 split at h
 ·split at h
  ·rename_i h0
   obtain⟨h1,h2⟩:=zP h
   rw[qiU]at h2
   have h1':=Nat.le_of_ble_eq_true (show Nat.ble _ 1000000=true from h1)
   refine qlW (qrL _ (by omega) _ h0) (.tup fun i c hi=>?_) hH h2
   match i with
   |0=>simp at hi;subst hi;exact .sc _
   |1=>simp at hi;subst hi;exact .sc _
   |i+2=>simp at hi
  ·cases h
 ·cases h
end Go.Abs.Tz
namespace Go.Abs
open Go
section
variable{P:Program}{N:Nat}{code:Code}{o:Oper}
theorem qpl{x:BO}{ps:List Nat}{ba bb:qk}(h:qu P N code=some (.rf x ps ba bb)):∃d pa a b,code=.rangeFunc d pa a b/\cO d=some x/\pa.toList=ps/\qu P N a=some ba/\qu P N b=some bb:=by
 cases code with
 |region id ops d=>rcases qcm h with⟨_,h⟩|⟨_,h⟩|h<;>cases h
 |rangeFunc d pa a b=>
  simp only[qu,Option.bind_eq_bind,Option.bind_eq_some_iff,Option.some.injEq]at h
  obtain⟨d',h1,a',h2,b',h3,h4⟩:=h
  cases h4
  exact⟨d,pa,a,b,rfl,h1,rfl,h2,h3⟩
 |seq a b=>simp[qu,Option.bind_eq_some_iff]at h
 |cond c a b=>simp[qu,Option.bind_eq_some_iff]at h
 |_=>simp[qu]at h
theorem qun(h:cOp P o=some .rc):∃c,o.op=.call c/\c.callee=.builtin .recover/\c.args.toList=[]:=by
 unfold cOp at h
 split at h
 all_goals ((repeat' split at h)<;>simp[Option.map_eq_some_iff,Option.bind_eq_some_iff]at h)
 all_goals exact⟨_,by assumption,rfl,by assumption⟩
end
section
variable{G:qb}{w:World}{H:qa}
theorem Inv.setDel(hI:Inv G w H){m:Nat}{lo:qc}{ob ob':Obj}(hl:look m H.objs=some lo)(h:w.heap[G.loc m]? = some ob)(hne:∀vs el fz,ob≠.cells vs el fz)(hB:¬(G.B (G.loc m)).isSome)
  (hown:G.own (G.loc m) 0=.obj m):Ext G w G (w.putObj (G.loc m) ob')/\Inv G (w.putObj (G.loc m) ob') (H.del m):=by
 have hx:Ext G w G (w.putObj (G.loc m) ob'):=qok h hne hB rfl (Nat.le_refl _) (fun _ _=>rfl) (fun _ _=>rfl) (fun _ _=>rfl) (fun _ _ h=>h) w.drawn
 have hd:∀i x,look i (H.del m).objs=some x->i≠m/\look i H.objs=some x:=fun i x hy=>by
  simp only[qa.del,qct]at hy
  split at hy
  ·cases hy
  ·rename_i hi;exact⟨hi,hy⟩
 refine⟨hx,Inv.step (fun i=>i=m) hI hx (qkl h hne w.drawn) hI.n (fun b x hb=>hI.free b x (by simpa using hb)) hI.old (fun i x hi hh=>(hd i x hh).2)
  (fun _ _ _ _ _ h=>h) (fun i hi ho hc=>?_) (fun _ _ _ _=>⟨fun h=>h,fun h=>h⟩) (fun _ _ _=>rfl) (fun j es' hj hh=>?_) (fun i x hi hh=>absurd hi (hd i x hh).1)⟩
 ·rw[hc,hown]at ho
  simp at ho
  exact hi ho.symm
 ·obtain⟨hjm,hh⟩:=hd j _ hh
  obtain⟨_,ents,clock,q1,_,q3,_⟩:=hI.objs j _ hh
  have:G.loc j≠G.loc m:=by
   intro e
   rw[e,hown]at q3
   simp at q3
   exact hjm q3.symm
  refine⟨es',hh,Nat.le_refl _,fun _ ents' clock' hp=>?_⟩
  have e2:(w.putObj (G.loc m) ob').heap[G.loc j]? = w.heap[G.loc j]?:=World.putObj_heap_other this
  rw[e2]at hp
  exact⟨ents',clock',hp,rfl,fun _=>rfl⟩
end
def frL(fr:Fr)(N:Nat):List LV:=(List.range N).map fr
section
variable{P:Program}{E:Env}{G:qb}{w:World}{fr:Fr}{H:qa}{N:Nat}{a:Act}{T:Res->Prop}
theorem rf_wp{nf:Nat}{Q:Exit->Act->World->Prop}{code:Code}{x:BO}{ps:List Nat}{ba bb:qk}{k f:Nat}{cap:List LV}(hc:qu P N code=some (.rf x ps ba bb))(hrc:∀d pa a b,code=.rangeFunc d pa a b->E.rc k=(a,b))
  (hI:Inv G w H) (hE:yJ E G w) (hf:FR G w N fr a) (hx:E.ev fr x=.fn (.func f) [] cap)
  (hcall:qV P E f (.fn (.yield (H.next+1)) [] []::cap) ((H.alloc .dfr).alloc (.rcd false (frL fr N) ps k)) T)
  (hT:∀r,T r->∃v H',r=.ret v H'/\isR (H.next+1) false H'=true)
  (hK:∀v H' G' w',T (.ret v H')->Inv G' w' (H'.del (H.next+1))->Ext G w G' w'->H.next<G'.n->Q .normal { a with defers:={ target:=.collected (G'.loc H.next),args:=#[] }::a.defers } w'):
  code.wpIn (fen none) nf P Q a w:=by
 obtain⟨d,pa,ca,cb,rfl,hd,rfl,_,_⟩:=qpl hc
 have hv:=qai hE hf d x hd
 rw[hx]at hv
 obtain⟨us,vs,hv,hu0,hvs,_,hvr⟩:=hv.fn_inv
 obtain rfl:us=#[]:=Array.eq_empty_of_size_eq_zero (by simpa using hu0)
 have hv:a.eval d=.func (.func f) #[] vs:=hv
 refine wpIn_rangeFunc fun fn _=>?_
 obtain⟨i1,x1⟩:=hI.alloc (.deferred (some [])) .dfr (0,0) (fun hx=>⟨by rw[qb.add_loc];exact heap_alloc_new,by rw[qb.add_loc];exact hI.hB',by rw[qb.add_loc];exact qb.add_own _ _ _ _ _⟩)
 have hrck:=hrc _ _ _ _ rfl
 have hEr:=hE.rc
 let L:Loop:={ state:=.ready,pending:=none,fn:=fn,tmps:=a.tmps,params:=pa,assign:=ca,body:=cb,defers:=w.heap.size }
 obtain⟨i2,x2⟩:=i1.alloc (.loop L) (.rcd false (frL fr N) pa.toList k) (0,0) (fun hx=>by
  refine⟨fn,a.tmps,w.heap.size,?_,by rw[qb.add_loc];exact i1.hB',by rw[qb.add_loc];exact qb.add_own _ _ _ _ _,by rw[hf.size];simp[frL],fun i y hi=>?_⟩
  ·rw[qb.add_loc]
   have e1:(((G.add H.next w.heap.size (0,0)).add (H.alloc .dfr).next (w.alloc (.deferred (some []))).heap.size (0,0)).rc k)=(ca,cb):=by
    show G.rc k=_
    rw[hEr,hrck]
   rw[e1]
   exact heap_alloc_new
  ·obtain⟨j,hj,rfl⟩:=List.getElem?_eq_some_iff.1 hi
   simp only[frL,List.getElem_map,List.getElem_range]
   exact((hf.slot i).mono x1).mono hx)
 have x12:=x1.trans x2
 have hE2:=hE.mono x12
 generalize hG2:(G.add H.next w.heap.size (0,0)).add (H.alloc .dfr).next (w.alloc (.deferred (some []))).heap.size (0,0)=G2 at i2 x2 x12 hE2
 have hl2:G2.loc (H.next+1)=w.heap.size+1:=by rw[<-hG2];simp[qb.add,qa.alloc]
 have hn2:G2.n=H.next+2:=by rw[<-hG2];simp[qb.add,qa.alloc]
 have hargs:yC G2 ((w.alloc (.deferred (some []))).alloc (.loop L)) (.fn (.yield (H.next+1)) [] []::cap) (#[.func (.yield (w.heap.size+1)) #[] #[]]++vs):=by
  have h1:yC G2 ((w.alloc (.deferred (some []))).alloc (.loop L)) [.fn (.yield (H.next+1)) [] []] #[.func (.yield (w.heap.size+1)) #[] #[]]:=by
   refine⟨rfl,fun i y hi=>?_⟩
   match i with
   |0=>
    simp at hi;subst hi
    have:=VR.fn (G:=G2) (w:=(w.alloc (.deferred (some []))).alloc (.loop L)) (f:=.yield (H.next+1)) (a:=[]) (c:=[]) (us:=#[]) (vs:=#[]) (by show _<G2.n;rw[hn2];omega) rfl rfl (fun i x h=>by simp at h) (fun i x h=>by simp at h)
    simpa [fnW,hl2] using this
   |i+1=>simp at hi
  exact h1.append ⟨hvs,fun i y hi=>(hvr i y hi).mono x12⟩
 obtain⟨he,hc2⟩:=hcall
 refine⟨w.heap.size+1,[{ target:=.collected w.heap.size,args:=#[] }],(w.alloc (.deferred (some []))).alloc (.loop L),{ target:=.fn (.func f) vs,args:=#[.func (.yield (w.heap.size+1)) #[] #[]] },(w.alloc (.deferred (some []))).alloc (.loop L),f,
  #[.func (.yield (w.heap.size+1)) #[] #[]]++vs,(w.alloc (.deferred (some []))).alloc (.loop L),run_enterLoop_outer _ _ _ _ _,?_,fun _ _=>trivial,?_,fun h=>(by cases h),?_⟩
 ·simp only[resolve,hv]
  simp[go_sem]
 ·obtain⟨fn',hf',hb',hn'⟩:=he
  simp only[invoke]
  exact qjp hf' hb' hn' _
 ·refine CallsIn.mono (F:=fen none) (callsIn_wide.2 (hc2 G2 _ _ i2 hE2 hargs)) fun e w' hp=>?_
  cases e with
  |outgrown=>exact hp.elim
  |panicked ch=>
   obtain⟨v,u,H',G',hTT,_⟩:=hp
   obtain⟨_,_,h,_⟩:=hT _ hTT
   cases h
  |returned u=>
   obtain⟨v,H',G',hTT,hv',hI',hx'⟩:=hp
   obtain⟨v1,H1,h,hR⟩:=hT _ hTT
   cases h
   obtain⟨fo1,ps1,k1,hl,_⟩:=qiE (b':=false) hR
   obtain⟨hm,fn1,tmps1,df1,q1,q2,q3,_⟩:=hI'.objs _ _ hl
   have hloc:G'.loc (H.next+1)=w.heap.size+1:=by rw[hx'.loc _ (by omega),hl2]
   have hlD:G'.loc H.next=w.heap.size:=by
    rw[hx'.loc _ (by omega),<-hG2]
    simp[qb.add,qa.alloc]
   have hend:=run_endLoop (P:=P) q1 (by simp)
   rw[hloc]at hend
   obtain⟨y1,y2⟩:=hI'.setDel (ob':=.loop { (rcL G' false fn1 tmps1 ps1 k1 df1) with state:=.exhausted }) hl q1 (by simp) q2 q3
   rw[hloc]at y1 y2
   refine⟨_,_,hend,?_⟩
   have:=hK v H' G' _ hTT y2 (x12.trans (hx'.trans y1)) (by have:=hx'.n;omega)
   rw[hlD]at this
   exact this
theorem qsp{f:FuncId}{fn:Func}{nf d n:Nat}{rest:qk}{args:List LV}{us:Array Value}{u:FrameMode}{y:LV}(hfn:P.funcs[f]? = some fn)(hc:cFn P fn=some ⟨.seq (.ops [⟨some d,none,.rc⟩]) rest,n,[]⟩)
  (hlen:args.length<=n) (hI:Inv G w H) (hE:yJ E G w) (ha:yC G w args us) (hu:(u=.returning/\y=.sc .nilIface)\/∃v,u=.panicking [{ v:=v,recovered:=false }]/\VR G w y v)
  (hrest:qfI P E rest (upd (zu args) d y) H T) (hT:∀e fr' df' H',T (.code e fr' df' H')->e=.normal\/e=.ret):
  CallsDIn (fen none) nf P f us u w fun e u' w'=>∃v le fr' df' H' G',e=.returned v/\settle u'=.returning/\T (.code le fr' df' H')/\Inv G' w' H'/\Ext G w G' w':=by
 obtain⟨c,hb,hcode,hbn,hres⟩:=qeh hc
 simp only at hcode hbn hres
 obtain⟨c1,c2,rfl,e1,e2⟩:=qam hcode
 obtain⟨id,ops,rfl,hm⟩:=qjr e1
 obtain⟨o,ol,hol,ho,hnil⟩:=qcq hm
 obtain rfl:=qiu hnil
 obtain⟨k1,k2,k3,k4⟩:=wG ho
 obtain⟨cc,hoc,hcal,hca⟩:=qun (k1 (by simp))
 have hg:o.guard=none:=by
  rcases k4 with⟨h,_⟩|⟨_,_,_,_,_,h⟩
  ·exact h
  ·cases h
 have hops:ops=#[o]:=by
  apply Array.toList_inj.1
  simpa using hol
 subst hops
 simp only at k2
 have hca:cc.args=#[]:=Array.toList_inj.1 (by simpa using hca)
 have hrun:∀ρ w,(execOp ρ o).run P w=.ok .recover w:=by
  intro ρ w
  simp[execOp,hoc,resolve,hcal,hca,invoke,builtin,go_sem]
 have hF:=qjF (n:=fn.ntmps) ha (hbn▸hlen)
 refine callsDIn_of_wpSIn hfn hb trivial fun c₀ cs hc₀=>?_
 refine wpSIn_seq (wpSIn_region ?_)
 have fin:∀(v:Value)(cs':List Frame)(u':FrameMode),VR G w y v->cs'={ c₀ with mode:=u' }::cs->settle u'=.returning ->
   c2.wpSIn (fen none) nf P (bodyPostS P fn c₀ cs fun e u' w'=>∃v le fr' df' H' G',e=.returned v/\settle u'=.returning/\T (.code le fr' df' H')/\Inv G' w' H'/\Ext G w G' w')
    (({ tmps:=us++Array.replicate (fn.ntmps - us.size) undef,defers:=[] }:Act).put o.dst v) cs' w:=by
  intro v cs' u' hv hcs hst
  refine wpSIn_of_wpIn rfl ?_
  have hd:(some d:Option Nat).all (fun x=>decide (x<fn.ntmps))=true:=by rw[<-k2]at k3;exact k3
  rw[<-k2]
  refine hrest none nf fn.ntmps c2 G w _ _ e2 hI hE (hF.put hd hv) fun e a' w' hp=>?_
  obtain⟨le,fr',df',H',G',hTT,he,hI',hf',hdf,hx⟩:=hp
  have hle:=hT _ _ _ _ hTT
  obtain⟨r,hr,_⟩:=qga (v:=.tup []) hI' hf' hres rfl
  rw[qaQ]at hdf
  rcases hle with rfl|rfl<;>(cases e<;>try exact he.elim)<;>exact⟨hdf,u',hcs,r,hr,r,_,fr',df',H',G',rfl,hst,hTT,hI',hx⟩
 show wpOpsSIn _ _ _ _ _ [0] _ _ _
 have hw:∀yl,Region.wanted o yl=true:=by intro yl;simp[Region.wanted,hg]
 have e0:(#[o]:Array Oper)[0]? = some o:=rfl
 simp only[wpOpsSIn,e0]
 refine⟨fun _ _=>trivial,?_⟩
 rw[if_pos (hw _)]
 rw[hrun]
 rcases hu with⟨rfl,rfl⟩|⟨v,rfl,hv⟩
 ·have:recoverD (c₀::cs)=none:=by simp[recoverD,hc₀]
  simp only[this]
  exact fin .nilIface _ .returning (.sc _) (by rw[<-hc₀]) rfl
 ·have:recoverD (c₀::cs)=some (v,{ c₀ with mode:=.panicking [{ v:=v,recovered:=true }] }::cs):=by simp[recoverD,hc₀]
  simp only[this]
  exact fin v _ (.panicking [{ v:=v,recovered:=true }]) hv rfl rfl
end
end Go.Abs
namespace Go.Abs
open Go
def rfOf:Code->Code×Code
 |.seq _ (.seq _ (.seq _ (.seq (.seq _ (.block _ (.rangeFunc _ _ a b))) _)))=>(a,b)
 |_=>(.skip,.skip)
structure RFn where
 A:qk
 I:qk
 B:qk
 C:qk
 id:Nat
 x:BO
 ps:List Nat
 ba:qk
 bb:qk
 k:Nat
 dd:Nat
 g:FuncId
 cs:List BO
 Z:qk
 n:Nat
 res:List qce
 dep:Nat
 dr:Nat
 rest:qk
 ng:Nat
 depg:Nat
def RFn.fn(r:RFn):BFn:=⟨.seq r.A (.seq r.I (.seq r.B (.seq (.seq r.C (.blk r.id (.rf r.x r.ps r.ba r.bb))) (.seq (.ops [⟨some r.dd,none,.mf (.func r.g) [] r.cs⟩,⟨none,none,.df (.t r.dd) []⟩]) r.Z)))),r.n,r.res⟩
def RFn.gn(r:RFn):BFn:=⟨.seq (.ops [⟨some r.dr,none,.rc⟩]) r.rest,r.ng,[]⟩
def isNR(e:qas):Bool:=match e with
 |.normal=>true
 |.ret=>true
 |_=>false
theorem quj{e:qas}(h:isNR e=true):e=.normal\/e=.ret:=by cases e<;>simp_all [isNR]
def qiG(o:Nat)(H:qa):Bool:=match look o H.objs with
 |some .dfr=>true
 |_=>false
theorem quk{o:Nat}{H:qa}(h:qiG o H=true):look o H.objs=some .dfr:=by
 unfold qiG at h;split at h
 ·assumption
 ·cases h
noncomputable def frF(t:FT)(N:Nat):List LV:=(List.range N).map t.get
noncomputable def qfe(r:RFn)(run:qk->ux)(t:FT)(cl:List LV)(m n0:Nat)(kv:HK)(y:LV)(H:qa):Bool:=
 FT.args cl 0 (FT.full r.depg) fun u=>u.setK r.dr y fun u=>run r.rest u H fun e _ H=>zC (isNR e) (zC (qiG m H) (uh (wM (H.del m) t.get r.res) fun v=>kv v (gcH n0 (H.del m))))
noncomputable def qjz(E:Env)(r:RFn)(run:qk->ux)(m n0:Nat)(kv:HK):ux->FT->qa->Bool:=fun z t H=>
 zC (Nat.ble r.cs.length r.ng) (t.setK r.dd (.fn (.func r.g) [] (qaB E r.cs t)) fun t1=>z t1 H fun e t2 H2=>match e with
  |.normal=>qfe r run t2 (qaB E r.cs t) m n0 kv (.sc .nilIface) H2
  |.ret=>qfe r run t2 (qaB E r.cs t) m n0 kv (.sc .nilIface) H2
  |.pan v=>qfe r run t2 (qaB E r.cs t) m n0 kv v H2
  |.exit _=>false)
noncomputable def qlT(r:RFn)(call:qcd)(v:LV)(t:FT)(H:qa)(k:Nat->qa->Bool):Bool:=match v with
 |.fn (.func f) [] cap=>qbw H.next fun m=>qbw (Nat.succ m) fun m1=>call f (.fn (.yield m1) [] []::cap) ⟨(m1,.rcd false (frF t r.n) r.ps r.k)::(m,.dfr)::H.objs,Nat.succ m1⟩ (fun _ H2=>zC (isR m1 false H2) (k m (H2.del m1))) (fun _ _=>false)
 |_=>false
noncomputable def qlX(E:Env)(run:qk->ux)(call:qcd)(r:RFn)(args:List LV)(H:qa)(kv:HK):Bool:=
 zC (Nat.ble args.length r.n) (FT.args args 0 (FT.full r.dep) fun t=>run r.A t H fun e t1 H1=>zC (isN e) (run r.I t1 H1 fun e t2 H2=>zC (isN e) (run r.B t2 H2 fun e t3 H3=>zC (isN e) (run r.C t3 H3 fun e t4 H4=>zC (isN e)
  (qlT r call (ev E r.x t4) t4 H4 fun m H5=>qjz E r run m H.next kv (run r.Z) t4 H5)))))
section
variable{P:Program}{E:Env}{F:Fns}
theorem qfW{c:qk}{rr:ux}{code:Code}{N nf:Nat}{G:qb}{w:World}{a:Act}{t:FT}{H:qa}{K:FT->qa->Bool}{next:Act->World->Prop}{Q:Exit->Act->World->Prop}(hmix:P.follows .mixedOrders=true)(hF:qep P E F)
  (hev:qcN E F c rr) (hcc:qu P N code=some c) (hI:Inv G w H) (hE:yJ E G w) (hf:FR G w N t.get a) (hH:H.Ok) (h:rr t H (fun e t1 H1=>zC (isN e) (K t1 H1))=true)
  (hK:∀t' H' G' w' a',K t' H'=true->H'.Ok->Inv G' w' H'->FR G' w' N t'.get a'->a'.defers=a.defers->Ext G w G' w'->next a' w'):code.wpIn (fen none) nf P (Exit.then next Q) a w:=by
 have hs:zq P E c t.get H _:=qbi hmix hF (hev t H _ hH h)
 refine hs.wp none nf N code G w a _ hcc hI hE hf fun e a' w' hp=>?_
 obtain⟨le,fr',df',H',G',hX,he,hI',hf',hd,hx⟩:=hp
 obtain⟨e0,t',H'',hr,hok,hk⟩:=hX
 cases hr
 obtain⟨hn,hk⟩:=zP hk
 obtain rfl:=qiF hn
 cases e<;>try exact he.elim
 exact hK _ _ _ _ _ hk hok hI' hf' hd hx
theorem yC.mono{G G':qb}{w w':World}{vs:List LV}{us:Array Value}(hx:Ext G w G' w')(h:yC G w vs us):yC G' w' vs us:=⟨h.1,fun i x hi=>(h.2 i x hi).mono hx⟩
theorem qvW{N nf d:Nat}{code:Code}{g:FuncId}{cs:List BO}{G:qb}{w:World}{H:qa}{fr:Fr}{a:Act}{next:Act->World->Prop}{Q:Exit->Act->World->Prop}
  (hc:qu P N code=some (.ops [⟨some d,none,.mf (.func g) [] cs⟩,⟨none,none,.df (.t d) []⟩])) (hI:Inv G w H) (hE:yJ E G w) (hf:FR G w N fr a)
  (hK:∀a' w' G' vs,FR G' w' N (upd fr d (.fn (.func g) [] (cs.map (E.ev fr)))) a'->yC G' w' (cs.map (E.ev fr)) vs->a'.defers={ target:=.fn (.func g) vs,args:=#[] }::a.defers->Ext G w G' w'->Inv G' w' H->next a' w'):
  code.wpIn (fen none) nf P (Exit.then next Q) a w:=by
 obtain⟨id,ops,rfl,hm⟩:=qjr hc
 obtain⟨o,ol,hol,ho,hm⟩:=qcq hm
 obtain⟨o2,ol2,rfl,ho2,hm⟩:=qcq hm
 obtain rfl:=qiu hm
 refine wpIn_region_list ?_
 rw[hol]
 obtain⟨h1,h2,h3,h4⟩:=wG ho
 obtain⟨k1,k2,k3,k4⟩:=wG ho2
 unfold wpListIn
 rw[if_pos (qat (fr:=fr) ho rfl fun d u _=>hf.slot d)]
 obtain⟨v,w',G',hy,hv,hx,hI'⟩:=qhn (fr:=fr) (x:=.fn (.func g) [] (cs.map (E.ev fr))) hI (qai hE hf) (fun _=>rfl) (h1 (by simp)) rfl
 refine hy.wpIn ?_
 have hf':FR G' w' N (upd fr d (.fn (.func g) [] (cs.map (E.ev fr)))) (a.put o.dst v):=by
  have h2':o.dst=some d:=h2.symm
  rw[h2']at h3 ⊢
  exact(hf.mono hx).put (d:=some d) h3 hv
 unfold wpListIn
 rw[if_pos (qat (fr:=upd fr d (.fn (.func g) [] (cs.map (E.ev fr)))) ho2 rfl fun d u _=>hf'.slot d)]
 obtain⟨c,y,hoc,hcal,hy2,hca⟩:=quu (k1 (by simp))
 have hca:c.args=#[]:=by
  apply Array.toList_inj.1
  cases hl:c.args.toList with
  |nil=>rfl
  |cons b bl=>
   rw[hl,List.mapM_cons]at hca
   cases hb:cO b with
   |none=>simp[hb]at hca
   |some x=>cases hbl:bl.mapM cO<;>simp[hb,hbl]at hca
 have hvy:=qai (hE.mono hx) hf' y (.t d) hy2
 have e1:E.ev (upd fr d (.fn (.func g) [] (cs.map (E.ev fr)))) (.t d)=.fn (.func g) [] (cs.map (E.ev fr)):=by simp[Env.ev,upd]
 rw[e1]at hvy
 obtain⟨us,vs,hvv,hu0,hvs,_,hvr⟩:=hvy.fn_inv
 obtain rfl:us=#[]:=Array.eq_empty_of_size_eq_zero (by simpa using hu0)
 have hvv:(a.put o.dst v).eval y=.func (.func g) #[] vs:=hvv
 have hrun:(o2.semAt none (a.put o.dst v).eval).run P w'=.ok (.defer { target:=.fn (.func g) vs,args:=#[] }) w':=by
  rw[Oper.semAt_none]
  simp only[execOp,hoc,resolve,hcal,hvv,Deferred.ofValue,Sem.run_bind,Sem.run_pure,Result.andThen_ok,hca]
  simp
 refine⟨fun _ _=>trivial,?_⟩
 rw[show (fen none).round=none from rfl,hrun,Oper.uponIn_defer]
 have k2':o2.dst=none:=k2.symm
 rw[k2']
 exact hK _ _ G' vs ⟨hf'.size,hf'.slot⟩ ⟨hvs,hvr⟩ (by show _::(a.put o.dst v).defers=_;rw[qaQ]) hx hI'
theorem qsC{run:qk->ux}{call:qcd}{r:RFn}{f:FuncId}(hmix:P.follows .mixedOrders=true)(hF:qep P E F)(hfn:F.fn f r.fn)(hg:F.fn r.g r.gn)(hrc:∀fn c,P.funcs[f]? = some fn->fn.body=some c->rfOf c=E.rc r.k)
  (hev:∀c,qcN E F c (run c)) (hcall:qhj E F call) {args:List LV} {H:qa} {kv kp:HK} (hH:H.Ok) (h:qlX E run call r args H kv=true):qV P E f args H (CS kv kp):=by
 obtain⟨fn,hf,hcF,hname⟩:=hF.fn _ _ hfn
 obtain⟨gn,hgf,hgc,hgname⟩:=hF.fn _ _ hg
 obtain⟨c,hb,hcode,hbn,hres⟩:=qeh hcF
 have hrc:=hrc fn c hf hb
 simp only[RFn.fn]at hcode hbn hres
 obtain⟨cA,c1,rfl,eA,hcode⟩:=qam hcode
 obtain⟨cI,c2,rfl,eI,hcode⟩:=qam hcode
 obtain⟨cB,c3,rfl,eB,hcode⟩:=qam hcode
 obtain⟨c4,c5,rfl,e4,e5⟩:=qam hcode
 obtain⟨cC,cl,rfl,eC,e4⟩:=qam e4
 obtain⟨cr,rfl,er⟩:=qjs e4
 obtain⟨cD,cZ,rfl,eD,eZ⟩:=qam e5
 have hrc':∀d pa a b,cr=.rangeFunc d pa a b->E.rc r.k=(a,b):=by
  intro d pa a b e
  subst e
  exact hrc.symm
 obtain⟨hn,h⟩:=zP h
 obtain⟨t,h,ht⟩:=FT.args_fr h
 refine⟨⟨fn,hf,by simp[hb],hname⟩,fun G w us hI hE ha=>(callsIn_wide (n:=0)).1 (callsIn_of_wp_marks (F:=fen none) (n:=0) hf hb trivial ?_)⟩
 have hf0:FR G w fn.ntmps t.get { tmps:=us++Array.replicate (fn.ntmps - us.size) undef,defers:=[] }:=by
  rw[ht];exact qjF ha (hbn▸Nat.le_of_ble_eq_true hn)
 refine wpIn_seq (qfW hmix hF (hev _) eA hI hE hf0 hH h fun t1 H1 G1 w1 a1 h ok1 hI1 hf1 hd1 hx1=>?_)
 have hE1:=hE.mono hx1
 refine wpIn_seq (qfW hmix hF (hev _) eI hI1 hE1 hf1 ok1 h fun t2 H2 G2 w2 a2 h ok2 hI2 hf2 hd2 hx2=>?_)
 have hE2:=hE1.mono hx2
 refine wpIn_seq (qfW hmix hF (hev _) eB hI2 hE2 hf2 ok2 h fun t3 H3 G3 w3 a3 h ok3 hI3 hf3 hd3 hx3=>?_)
 have hE3:=hE2.mono hx3
 refine wpIn_seq (wpIn_seq (qfW hmix hF (hev _) eC hI3 hE3 hf3 ok3 h fun t4 H4 G4 w4 a4 h ok4 hI4 hf4 hd4 hx4=>?_))
 have hE4:=hE3.mono hx4
 have hx04:=((hx1.trans hx2).trans hx3).trans hx4
 have hd04:a4.defers=[]:=hd4.trans (hd3.trans (hd2.trans hd1))
 refine wpIn_block ?_
 unfold qlT at h
 split at h
 ·rename_i fi cap hx
  rw[zS]at hx
  rw[qcw,qcw]at h
  have hO:=hcall _ _ _ _ _ (show qa.Ok ⟨(Nat.succ H4.next,.rcd false (frF t4 r.n) r.ps r.k)::(H4.next,.dfr)::H4.objs,Nat.succ (Nat.succ H4.next)⟩ from ⟨Nat.lt_succ_self _,Nat.lt_succ_self _,ok4⟩) h
  have hC:qV P E _ _ _ _:=qbi hmix hF hO
  refine rf_wp (k:=r.k) (T:=CS (fun _ H2=>zC (isR (Nat.succ H4.next) false H2) (qjz E r run H4.next H.next kv (run r.Z) t4 (H2.del (Nat.succ H4.next)))) fun _ _=>false) er hrc' hI4 hE4 hf4 hx (by rw[<-hbn];exact hC) (fun q hq=>?_) (fun v H5 G5 w5 hT hI5 hx5 hlt5=>?_)
  ·rcases hq with⟨v,H',rfl,_,hk⟩|⟨v,H',rfl,_,hk⟩
   ·exact⟨v,H',rfl,(zP hk).1⟩
   ·cases hk
  rcases hT with⟨v',H',he,ok5,hk⟩|⟨v',H',he,_,hk⟩
  rotate_left
  ·cases hk
  cases he
  obtain⟨_,hk⟩:=zP hk
  have ok5':(H5.del (Nat.succ H4.next)).Ok:=qt.del ok5
  have hE5:=hE4.mono hx5
  have hx05:=hx04.trans hx5
  show (Code.seq cD cZ).wpIn (fen none) 0 P (bodyPostM (fen none) 0 P fn (qjS G w (CS kv kp))) _ _
  unfold qjz at hk
  obtain⟨hcl,hk⟩:=zP hk
  obtain⟨t6,hk,ht6⟩:=FT.setK_spec hk
  rw[qdY]at hk ht6
  refine wpIn_seq (qvW (fr:=t4.get) eD hI5 hE5 ⟨(hf4.mono hx5).size,(hf4.mono hx5).slot⟩ fun a6 w6 G6 vs hf6 hvs hd6 hx6 hI6=>?_)
  have hE6:=hE5.mono hx6
  have hx06:=hx05.trans hx6
  rw[<-ht6]at hf6
  have hs:zq P E r.Z t6.get (H5.del (Nat.succ H4.next)) _:=qbi hmix hF (hev _ t6 _ _ ok5' hk)
  refine hs.wp none 0 fn.ntmps cZ G6 w6 a6 _ eZ hI6 hE6 hf6 fun e a7 w7 hp=>?_
  obtain⟨le,fr7,df7,H7,G7,hX,he7,hI7,hf7,hd7,hx7⟩:=hp
  obtain⟨e0,t7,H7',hr,ok7,hk⟩:=hX
  cases hr
  have hE7:=hE6.mono hx7
  have hx07:=hx06.trans hx7
  have hdefs:a7.defers=[{ target:=.fn (.func r.g) vs,args:=#[] },{ target:=.collected (G5.loc H4.next),args:=#[] }]:=by rw[hd7,hd6];simp[hd04]
  have hvs7:=(hvs.mono hx7)
  have last:∀(y:LV)(u:FrameMode),u≠.run->((u=.returning/\y=.sc .nilIface)\/∃v,u=.panicking [{ v:=v,recovered:=false }]/\VR G7 w7 y v)->qfe r run t7 (r.cs.map (E.ev t4.get)) H4.next H.next kv y H7=true ->
    LeavesInM (fen none) 0 P fn a7.tmps (qjS G w (CS kv kp)) a7.defers u w7:=by
   intro y u hur hu hk
   unfold qfe at hk
   obtain⟨u1,hk,hu1⟩:=FT.args_fr hk
   obtain⟨u2,hk,hu2⟩:=FT.setK_spec hk
   rw[hu1]at hu2
   have hs:zq P E r.rest u2.get H7 _:=qbi hmix hF (hev _ u2 _ _ ok7 hk)
   rw[hdefs]
   refine⟨hur,.inr ⟨fun h=>(by cases h),.func r.g,vs,r.g,vs,rfl,?_,fun _ _=>trivial,?_⟩⟩
   ·obtain⟨cg,hgb,_⟩:=qeh hgc
    have:=qjp (P:=P) (w:=w7) hgf (by simp[hgb]) hgname vs
    simpa [invoke] using this
   ·refine CallsDIn.mono (qsp (nf:=0 - 1) hgf hgc (by simpa using Nat.le_of_ble_eq_true hcl) hI7 hE7 hvs7 hu (by rw[<-hu2];exact hs.wp) fun e fr' df' H' hT=>?_) fun e u' w' hq=>?_
    ·obtain⟨e1,t',H'',he,_,hk⟩:=hT
     cases he
     exact quj (zP hk).1
    ·obtain⟨v,le,fr',df',H8,G8,rfl,hst,hT,hI8,hx8⟩:=hq
     obtain⟨e1,t',H'',he,ok8,hk⟩:=hT
     cases he
     obtain⟨_,hk⟩:=zP hk
     obtain⟨hD,hk⟩:=zP hk
     obtain⟨vr,hvr,hk⟩:=yM hk
     have hlD:=quk hD
     obtain⟨hlt8,q1,q2,q3⟩:=hI8.objs _ _ hlD
     have hloc:G8.loc H4.next=G5.loc H4.next:=by
      have h8:=hx8.loc H4.next
      have h7:=hx7.loc H4.next
      have h6:=hx6.loc H4.next
      have n6:=hx6.n
      have n7:=hx7.n
      rw[h8 (by omega),h7 (by omega),h6 (by omega)]
     obtain⟨y1,y2⟩:=hI8.setDel (ob':=.deferred none) hlD q1 (by simp) q2 q3
     have htd:=run_takeDeferred (P:=P) q1
     rw[hloc]at y1 y2 htd
     simp only
     rw[hst]
     refine⟨by simp,.inl ⟨_,_,rfl,htd,?_⟩⟩
     have hxx:=hx8.trans y1
     obtain⟨uv,hr1,hr2⟩:=qga y2 (hf7.mono hxx) hres hvr
     have okd:(H8.del H4.next).Ok:=qt.del ok8
     have hgc8:=qfi okd H.next
     exact⟨uv,hr1,vr,_,G8,.inl ⟨vr,_,rfl,hgc8.1,hk⟩,hr2,y2.wk hgc8.2,hx07.trans hxx⟩
  cases le with
  |normal=>
   cases e<;>try exact he7.elim
   exact last _ .returning (by simp) (.inl ⟨rfl,rfl⟩) hk
  |ret=>
   cases e<;>try exact he7.elim
   exact last _ .returning (by simp) (.inl ⟨rfl,rfl⟩) hk
  |exit n=>cases hk
  |pan v=>
   cases e<;>try exact he7.elim
   obtain⟨u,rfl,hv⟩:=he7
   exact last v (.panicking [{ v:=u,recovered:=false }]) (by simp) (.inr ⟨u,rfl,hv⟩) hk
 ·cases h
end
end Go.Abs
namespace Go.Abs
open Go
mutual
def qdo:LV->Bool
 |.sc _=>true
 |.agg cs=>belBs cs
 |.tup cs=>belBs cs
 |.sl es .no=>belBs es
 |_=>false
def belBs:List LV->Bool
 |[]=>true
 |v::r=>match qdo v with
  |true=>belBs r
  |false=>false
end
theorem qwL{n:Nat}{e:LV}(h:Bel n e)(j:Nat)(c:LV)(hc:e.cells[j]? = some c):Bel n c:=by
 have one:e.cells=[e]->Bel n c:=by
  intro he
  rw[he]at hc
  cases j with
  |zero=>simp at hc;subst hc;exact h
  |succ j=>simp at hc
 cases e with
 |agg cs=>cases h with|agg h=>exact h j c hc
 |_=>exact one rfl
mutual
theorem qps:∀{v:LV},qdo v=true->Bel 0 v
 |.sc _,_=>.sc _
 |.agg cs,h=>.agg fun i c hc=>belBs_ok (l:=cs) (by rw[qdo]at h;exact h) i c hc
 |.tup cs,h=>.tup fun i c hc=>belBs_ok (l:=cs) (by rw[qdo]at h;exact h) i c hc
 |.sl es .no,h=>.sl (fun i e j c he hc=>qwL (belBs_ok (l:=es) (by rw[qdo]at h;exact h) i e he) j c hc) (fun t ht=>by cases ht)
 |.sl _ .full,h|.sl _ (.tok _),h|.asl _ _ _,h|.ptr _ _,h|.cptr _ _,h|.map _,h|.fn _ _ _,h|.iface _ _,h|.bot,h=>by simp[qdo]at h
theorem belBs_ok:∀{l:List LV},belBs l=true->∀(i:Nat)(c:LV),l[i]? = some c->Bel 0 c
 |[],_,i,c,hc=>by simp at hc
 |v::r,h,i,c,hc=>by
  rw[belBs]at h
  split at h
  ·rename_i hv
   cases i with
   |zero=>simp at hc;subst hc;exact qps hv
   |succ i=>exact belBs_ok h i c (by simpa using hc)
  ·cases h
end
theorem VR.cl0{G G':qb}{w:World}{x:LV}{v:Value}(hcl:∀b y,G.Cl b y->G'.Cl b y)(h:VR G w x v):Bel 0 x->VR G' w x v:=by
 induction h with
 |sc v=>exact fun _=>.sc v
 |bot v=>exact fun _=>.bot v
 |agg hs _ h1 ih=>intro hb;cases hb with|agg hb=>exact .agg hs (fun i c hc=>ih i c hc (hb i c hc)) h1
 |tup hs _ ih=>intro hb;cases hb with|tup hb=>exact .tup hs (fun i c hc=>ih i c hc (hb i c hc))
 |@sl es own b off sz cap xs hc hz hx _ ho ih=>
  intro hb
  cases hb with
  |sl hb ho'=>
   refine .sl hc hz (fun i e j c h1 h2=>⟨hcl _ _ (hx i e j c h1 h2).1,(hx i e j c h1 h2).2⟩) (fun i e j c h1 h2=>ih i e j c h1 h2 (hb i e j c h1 h2)) ?_
   cases own with
   |no=>exact trivial
   |full=>exact ho
   |tok t=>exact absurd (ho' t rfl) (by omega)
 |@sln own ho=>
  intro hb
  cases hb with
  |sl _ ho'=>
   refine .sln ?_
   cases own with
   |no=>exact trivial
   |full=>exact ho
   |tok t=>exact absurd (ho' t rfl) (by omega)
 |sle a=>exact fun _=>.sle a
 |asl ho hl hc=>intro hb;cases hb with|asl hb=>exact absurd hb (by omega)
 |ptr ho=>intro hb;cases hb with|ptr hb=>exact absurd hb (by omega)
 |cptr hx _ ih=>intro hb;cases hb with|cptr hb=>exact .cptr (fun j c h=>⟨hcl _ _ (hx j c h).1,(hx j c h).2⟩) (fun j c h=>ih j c h (hb j c h))
 |map ho=>intro hb;cases hb with|map hb=>exact absurd hb (by omega)
 |@fn f a c us vs hf h1 h2 _ _ ih1 ih2=>
  intro hb
  cases hb with
  |fn hbf hb1 hb2=>
   have e:fnW G f=fnW G' f:=by
    cases f<;>first|rfl|exact absurd hbf (by simp[qdi])
   rw[e]
   refine .fn ?_ h1 h2 (fun i x h=>ih1 i x h (hb1 i x h)) (fun i x h=>ih2 i x h (hb2 i x h))
   cases f<;>first|trivial|exact absurd hbf (by simp[qdi])
 |iface _ ih=>intro hb;cases hb with|iface hb=>exact .iface (ih hb)
end Go.Abs
namespace Go.Abs
open Go
theorem Inv.grownSet{G:qb}{w w':World}{H:qa}(hI:Inv G w H)(hg:w.grownBy w' none)(C:Nat->Nat->Lab)(hC:∀b x,w'.heap.size<=b->C b x≠.cl):
  ∃G',Ext G w G' w'/\Inv G' w' H/\G'.B=G.B/\∀b x,w.heap.size<=b->C b x=.cl->G'.own b x=.cl:=by
 have hb:∀k,k<w.heap.size->w'.heap[k]? = w.heap[k]?:=fun k hk=>hg.block k hk (by simp)
 have hlt:∀{k:Nat}{o:Obj},w.heap[k]? = some o->k<w.heap.size:=fun h=>(Array.getElem?_eq_some_iff.1 h).1
 let own':Nat->Nat->Lab:=fun b x=>if w.heap.size<=b then (match C b x with|.cl=>.cl|_=>.free) else G.own b x
 let G':qb:=⟨G.B,G.n,G.loc,G.asz,G.tk,own',G.rc⟩
 have hne:∀{b x:Nat}{l:Lab},G.own b x=l->l≠.free->¬w.heap.size<=b:=by
  intro b x l h hl e
  rw[hI.free b x e]at h
  exact hl h.symm
 have hold:∀{b x:Nat},¬w.heap.size<=b->own' b x=G.own b x:=fun h=>if_neg h
 have hx:Ext G w G' w':=by
  refine⟨hg.os,hg.tape,hg.output,hg.size,rfl,fun k hk=>hb k (hI.hB k hk),Nat.le_refl _,fun _ _=>rfl,fun _ _=>rfl,fun b x hc=>⟨?_,fun v hv=>?_⟩,fun t _ m b c h=>⟨m,b,c,h,Nat.le_refl _,fun _=>⟨rfl,rfl⟩⟩,rfl⟩
  ·show own' b x=.cl
   rw[hold (hne hc (by simp))];exact hc
  ·have:b<w.heap.size:=by
    rcases Nat.lt_or_ge b w.heap.size with h|h
    ·exact h
    ·rw[hI.free b x h]at hc;cases hc
   rw[qal (hb b this)];exact hv
 refine⟨G',hx,Inv.step (W:=fun _ _=>False) (V:=fun _=>False) (fun _=>False) hI hx ⟨fun k vs el fz h=>⟨vs,by rw[hb k (hlt h)];exact h,rfl,fun _ _=>rfl⟩,fun k ob h _ _=>by rw[hb k (hlt h)];exact h⟩
  hI.n (fun b x h=>?_) (fun b x h=>?_) (fun _ _ _ h=>h) (fun _ _ _ _ _ h=>h) (fun _ _ _ h=>h) (fun i k x _=>⟨fun h=>?_,fun h=>?_⟩) (fun _ _ _=>rfl) ?_ (fun _ _ h=>h.elim),rfl,fun b x h hc=>?_⟩
 ·show own' b x=.free
  have h2:w.heap.size<=b:=Nat.le_trans hg.size h
  show (if w.heap.size<=b then (match C b x with|.cl=>Lab.cl|_=>.free) else G.own b x)=.free
  rw[if_pos h2]
  have:=hC b x h
  split
  ·rename_i hcc;exact absurd hcc this
  ·rfl
 ·show own' b x=.free
  have:=hI.hB b h
  rw[hold (by omega)];exact hI.old b x h
 ·show own' k x=_
  rw[hold (hne h (by simp))];exact h
 ·show own' k x=_
  rw[hold (hne h (by simp))];exact h
 ·intro m es' hm he'
  obtain⟨_,hob⟩:=hI.objs m _ he'
  obtain⟨ents,clock,h1,_⟩:=hob
  refine⟨es',he',Nat.le_refl _,fun _ ents' clock' h'=>⟨ents,clock,h1,?_⟩⟩
  rw[hb _ (hlt h1),h1]at h'
  cases h'
  exact⟨rfl,fun _=>rfl⟩
 ·show (if w.heap.size<=b then (match C b x with|.cl=>Lab.cl|_=>.free) else G.own b x)=.cl
  rw[if_pos h,hc]
theorem qV.frame{P:Program}{E:Env}{f:FuncId}{args:List LV}{v:LV}{S:Res->Prop}(hg:∀g,E.glob g=.bot)(h:qV P E f args ⟨[],1⟩ fun r=>∃v' H',r=.ret v' H'/\v'.strip=v)
  (hb:Bel 0 v) (hba:∀(i:Nat)(x:LV),args[i]? = some x->∃u,x=.sc u) (H:qa) (hS:S (.ret v H)):qV P E f args H S:=by
 refine⟨h.1,fun G w us hI hE ha=>?_⟩
 let B1:Nat->Option Bool:=fun b=>if b<w.heap.size then some (decide (G.B b=some true)) else none
 let G0:qb:=⟨B1,0,G.loc,G.asz,G.tk,fun _ _=>.free,G.rc⟩
 have hB1:∀b,b<w.heap.size->B1 b=some (decide (G.B b=some true)):=fun b h=>if_pos h
 have hB2:∀b,¬b<w.heap.size->B1 b=none:=fun b h=>if_neg h
 have hI0:Inv G0 w ⟨[],1⟩:=by
  refine⟨Nat.zero_le _,fun b hh=>?_,fun _ _ _=>rfl,fun _ _ _=>rfl,fun o x hx=>by simp[look]at hx⟩
  rcases Nat.lt_or_ge b w.heap.size with h|h
  ·exact h
  ·rw[show G0.B b=none from hB2 b (by omega)]at hh
   cases hh
 have hE0:yJ E G0 w:=⟨fun g=>by rw[hg];exact .bot _,hE.rc,fun p hp=>by
  obtain⟨h1,h2⟩:=hE.fix p hp
  have hlt:=hI.hB p.1 (by rw[h1];rfl)
  exact⟨by rw[show G0.B p.1=_ from hB1 _ hlt,h1];rfl,h2⟩⟩
 have ha0:yC G0 w args us:=⟨ha.1,fun i x hi=>by
  obtain⟨u,rfl⟩:=hba i x hi
  have:=(ha.2 i _ hi).sc_inv
  rw[this]
  exact .sc _⟩
 refine(h.2 G0 w us hI0 hE0 ha0).mono fun e w' hp=>?_
 cases e with
 |outgrown=>exact hp.elim
 |panicked ch=>
  obtain⟨_,_,_,_,⟨_,_,hn,_⟩,_⟩:=hp
  cases hn
 |returned u=>
  obtain⟨v',H',G1,⟨_,_,hn,hv⟩,hV,hI1,hx⟩:=hp
  cases hn
  have hV1:VR G1 w' v u:=by rw[<-hv];exact hV.strip
  have hgrow:w.grownBy w' none:=⟨hx.os,hx.tape,hx.output,hx.size,fun k hk _=>hx.block k (by rw[show G0.B k=_ from hB1 k hk];rfl)⟩
  obtain⟨G',hx',hI',hGB,hcl⟩:=hI.grownSet hgrow G1.own fun b x h hc=>by rw[hI1.free b x h]at hc;cases hc
  refine⟨v,H,G',hS,VR.cl0 (G:=G1) (G':=G') (fun b y hc=>?_) hV1 hb,hI',hx'⟩
  rcases hc with hc|hc
  ·rw[hx.hB]at hc
   rcases Nat.lt_or_ge b w.heap.size with h|h
   ·rw[show G0.B b=_ from hB1 b h]at hc
    exact .inl (by rw[hGB];exact of_decide_eq_true (Option.some.inj hc))
   ·rw[show G0.B b=none from hB2 b (by omega)]at hc
    cases hc
  ·rcases Nat.lt_or_ge b w.heap.size with h|h
   ·have:=hI1.old b y (by rw[hx.hB,show G0.B b=_ from hB1 b h];rfl)
    rw[this]at hc
    cases hc
   ·exact .inr (hcl b y h hc)
def scB:List LV->Bool
 |[]=>true
 |.sc _::r=>scB r
 |_=>false
theorem qln:∀{l:List LV},scB l=true->∀(i:Nat)(x:LV),l[i]? = some x->∃u,x=.sc u
 |[],_,i,x,hx=>by simp at hx
 |v::r,h,i,x,hx=>by
  cases v with
  |sc u=>
   cases i with
   |zero=>simp at hx;exact⟨u,hx.symm⟩
   |succ i=>exact qln (l:=r) h i x (by simpa using hx)
  |_=>cases h
end Go.Abs
namespace Go.Abs.Tz
open Go Go.Abs Go.Proofs
noncomputable def qgj(f:FuncId):Option qek:=match f with
 |172=>some qia
 |171=>some qib
 |_=>none
theorem qsE(f:FuncId)(p:qek)(h:qgj f=some p)(args:List LV)(H:qa)(kv kp:HK)(hH:H.Ok)(hp:p args H kv kp=true):Out E0 F0 (.call f args H) (CS kv kp):=by
 unfold qgj at h
 split at h
 ·cases h;exact qsF hH hp
 ·cases h;exact qsG hH hp
 ·cases h
def pP(k:Nat):qk:=match k,b48.body with
 |0,.seq a _=>a
 |1,.seq _ (.seq a _)=>a
 |2,.seq _ (.seq _ (.seq a _))=>a
 |3,.seq _ (.seq _ (.seq _ (.seq (.seq a _) _)))=>a
 |4,.seq _ (.seq _ (.seq _ (.seq (.seq _ (.blk _ (.rf _ _ a _))) _)))=>a
 |5,.seq _ (.seq _ (.seq _ (.seq (.seq _ (.blk _ (.rf _ _ _ a))) _)))=>a
 |6,.seq _ (.seq _ (.seq _ (.seq _ (.seq _ a))))=>a
 |_,_=>.bad
def qP:qk:=match b107.body with
 |.seq _ a=>a
 |_=>.bad
def rP:RFn:=⟨pP 0,pP 1,pP 2,pP 3,0,T 14,[15],pP 4,pP 5,0,31,107,[T 2,T 4,T 5,T 6],pP 6,39,[.c 4 none,.c 5 none],6,7,qP,36,6⟩
theorem qlU:rP.fn=b48:=rfl
theorem rP_gn:rP.gn=b107:=rfl
theorem rcP(fn:Func)(c:Code)(hf:Tryz.prog.funcs[48]? = some fn)(hb:fn.body=some c):rfOf c=E0.rc 0:=by
 simp only[E0,rcT,hf,hb,Option.bind_some,Option.getD_some]
theorem rngP:F0.rng 0 39 (pP 4) (pP 5):=by
 obtain⟨fn,hf,hcF,_⟩:=qbR.fn 48 rP.fn (by rw[qlU];exact c48)
 obtain⟨c,hb,hcode,hbn,_⟩:=qeh hcF
 have hrc:=rcP fn c hf hb
 simp only[RFn.fn]at hcode hbn
 obtain⟨cA,c1,rfl,eA,hcode⟩:=qam hcode
 obtain⟨cI,c2,rfl,eI,hcode⟩:=qam hcode
 obtain⟨cB,c3,rfl,eB,hcode⟩:=qam hcode
 obtain⟨c4,c5,rfl,e4,e5⟩:=qam hcode
 obtain⟨cC,cl,rfl,eC,e4⟩:=qam e4
 obtain⟨cr,rfl,er⟩:=qjs e4
 obtain⟨d,pa,a,b,rfl,_,_,h1,h2⟩:=qpl er
 show qu Tryz.prog 39 (E0.rc 0).1=_/\qu Tryz.prog 39 (E0.rc 0).2=_
 rw[<-hrc,show (39:Nat)=fn.ntmps from hbn]
 exact⟨h1,h2⟩
noncomputable def CP3:Cfg:=⟨E0,qfa tabP,qgj,fun k=>match k with
 |0=>some (pP 4,pP 5,39,6)
 |_=>none⟩
theorem qes:qer CP3 F0:=⟨fun f i h=>qmM qqA f i h,qsE,fun k ba bb N d h=>by
 simp only[CP3]at h
 split at h
 ·cases h;exact rngP
 ·cases h⟩
noncomputable def qlY(n:Nat):qek:=fun args H kv _=>qlX E0 (qgQ CP3 n false) (qeg CP3 (qgQ CP3 n)) rP args H kv
theorem qsD(n:Nat){args:List LV}{H:qa}{kv kp:HK}(hH:H.Ok)(h:qlY n args H kv kp=true):Out E0 F0 (.call 48 args H) (CS kv kp):=
 .prim (qsC (P:=Tryz.prog) (E:=E0) (F:=F0) (r:=rP) (f:=48) qdf qbR (by rw[qlU];exact c48) (by rw[rP_gn];exact c107) rcP (fun c=>qjc qes n false c) (qgZ qes (qjc qes n)) hH h)
noncomputable def qlZ(f:FuncId):Option qek:=match f with
 |48=>some (qlY 1000000)
 |f=>qgj f
noncomputable def CP4:Cfg:=⟨E0,qfa tabP,qlZ,CP3.rng⟩
theorem qxp:qer CP4 F0:=⟨qes.tab,fun f p h args H kv kp hH hp=>by
 simp only[CP4,qlZ]at h
 split at h
 ·cases h;exact qsD _ hH hp
 ·exact qes.prim _ _ h _ _ _ _ hH hp,qes.rng⟩
noncomputable def qeF(f:FuncId)(args:List LV)(v:LV):Bool:=qpk CP4 1000000 f args ⟨[],1⟩ (fun u _=>gU u.strip v) (fun _ _=>false)
abbrev qfF(f:FuncId)(args:List LV)(v:LV):Prop:=qhf E0 F0 f args v
theorem qgD{f:FuncId}{args:List LV}{v:LV}(h:qeF f args v=true)(hb:qdo v=true)(ha:scB args=true):qfF f args v:=by
 intro H kv kp hk hH
 have hO:=qwo qxp (show qa.Ok ⟨[],1⟩ from trivial) h
 have hC:qV Tryz.prog E0 f args ⟨[],1⟩ _:=qbi qdf qbR hO
 refine .prim (qV.frame (fun _=>rfl) (hC.weaken fun r hr=>?_) (qps hb) (qln ha) H (.inl ⟨v,_,rfl,hH,hk⟩))
 rcases hr with⟨u,H,rfl,_,hk⟩|⟨u,H,rfl,_,hk⟩
 ·exact⟨u,H,rfl,qgR hk⟩
 ·cases hk
end Go.Abs.Tz
namespace Go.Abs.Tz
open Go Go.Abs Go.Proofs
def t0Y:Term:=⟨0,0,⟨⟨[]⟩⟩⟩
def qiv:List qe:=[⟨⟨⟨⟨[108,111,115,116]⟩⟩,[⟨3,0,⟨⟨[83]⟩⟩⟩]⟩,[⟨1,⟨⟨⟨[115,116,111,110,101]⟩⟩,[⟨3,0,⟨⟨[83]⟩⟩⟩,⟨3,0,⟨⟨[78]⟩⟩⟩]⟩,t0Y,t0Y⟩,⟨5,⟨⟨⟨[]⟩⟩,[]⟩,⟨3,0,⟨⟨[78]⟩⟩⟩,⟨1,3,⟨⟨[]⟩⟩⟩⟩]⟩]
def qjt:List qe:=[⟨⟨⟨⟨[98,111,117,110,100]⟩⟩,[⟨3,0,⟨⟨[83]⟩⟩⟩]⟩,[⟨1,⟨⟨⟨[115,116,111,110,101]⟩⟩,[⟨3,0,⟨⟨[83]⟩⟩⟩,⟨3,0,⟨⟨[78]⟩⟩⟩]⟩,t0Y,t0Y⟩,⟨2,⟨⟨⟨[108,111,115,116]⟩⟩,[⟨3,0,⟨⟨[83]⟩⟩⟩]⟩,t0Y,t0Y⟩]⟩]
def qbg:List Atom:=[⟨⟨⟨[115,116,111,110,101]⟩⟩,[⟨1,1,⟨⟨[]⟩⟩⟩,⟨1,2,⟨⟨[]⟩⟩⟩]⟩,
 ⟨⟨⟨[115,116,111,110,101]⟩⟩,[⟨1,2,⟨⟨[]⟩⟩⟩,⟨1,5,⟨⟨[]⟩⟩⟩]⟩,
 ⟨⟨⟨[115,116,111,110,101]⟩⟩,[⟨1,3,⟨⟨[]⟩⟩⟩,⟨1,0,⟨⟨[]⟩⟩⟩]⟩,
 ⟨⟨⟨[115,101,101,110]⟩⟩,[⟨1,3,⟨⟨[]⟩⟩⟩]⟩,
 ⟨⟨⟨[110,101,120,116]⟩⟩,[⟨1,1,⟨⟨[]⟩⟩⟩,⟨1,2,⟨⟨[]⟩⟩⟩]⟩,
 ⟨⟨⟨[110,101,120,116]⟩⟩,[⟨1,2,⟨⟨[]⟩⟩⟩,⟨1,3,⟨⟨[]⟩⟩⟩]⟩,
 ⟨⟨⟨[110,101,120,116]⟩⟩,[⟨1,3,⟨⟨[]⟩⟩⟩,⟨1,1,⟨⟨[]⟩⟩⟩]⟩]
def qcO:Atom:=⟨⟨⟨[98,111,117,110,100]⟩⟩,[⟨1,1,⟨⟨[]⟩⟩⟩]⟩
noncomputable def qxj:List LV:=[.str ⟨⟨[108,111,115,116,40,83,41,32,105,102,32,115,116,111,110,101,40,83,44,32,78,41,44,32,78,32,60,32,51,46]⟩⟩]
noncomputable def qqs:LV:=.tup [.sl (qiv.map yU) .no,.sc (.int .i64 0),.sc (.int .i64 0)]
theorem qsw:qeF 9 qxj qqs=true:=by kernel_rfl
theorem quI:qfF 9 [.str ⟨⟨[108,111,115,116,40,83,41,32,105,102,32,115,116,111,110,101,40,83,44,32,78,41,44,32,78,32,60,32,51,46]⟩⟩] (.tup [.sl (qiv.map yU) .no,.sc (.int .i64 0),.sc (.int .i64 0)]):=qgD qsw (by kernel_rfl) (by kernel_rfl)
noncomputable def qxk:List LV:=[.str ⟨⟨[98,111,117,110,100,40,83,41,32,105,102,32,115,116,111,110,101,40,83,44,32,78,41,44,32,110,111,116,32,108,111,115,116,40,83,41,46]⟩⟩]
noncomputable def qqt:LV:=.tup [.sl (qjt.map yU) .no,.sc (.int .i64 0),.sc (.int .i64 0)]
theorem qsx:qeF 9 qxk qqt=true:=by kernel_rfl
theorem quJ:qfF 9 [.str ⟨⟨[98,111,117,110,100,40,83,41,32,105,102,32,115,116,111,110,101,40,83,44,32,78,41,44,32,110,111,116,32,108,111,115,116,40,83,41,46]⟩⟩] (.tup [.sl (qjt.map yU) .no,.sc (.int .i64 0),.sc (.int .i64 0)]):=qgD qsx (by kernel_rfl) (by kernel_rfl)
noncomputable def qxl:List LV:=[]
noncomputable def qqu:LV:=.sl (qbg.map qh) .no
theorem qsy:qeF 43 qxl qqu=true:=by kernel_rfl
theorem qiO:qfF 43 [] (.sl (qbg.map qh) .no):=qgD qsy (by kernel_rfl) (by kernel_rfl)
noncomputable def qxm:List LV:=[.str ⟨⟨[98,111,117,110,100,40,49,41]⟩⟩]
noncomputable def qqv:LV:=qh qcO
theorem qsz:qeF 44 qxm qqv=true:=by kernel_rfl
theorem qnz:qfF 44 [.str ⟨⟨[98,111,117,110,100,40,49,41]⟩⟩] (qh qcO):=qgD qsz (by kernel_rfl) (by kernel_rfl)
end Go.Abs.Tz
namespace Go.Abs.Tz
open Go Go.Abs Go.Proofs
set_option maxRecDepth 20000
set_option linter.unusedSimpArgs false
attribute [local simp ↓] gF gD uZ uY gd zX qW zk uX zU yq yr gG gI gJ gH jd jg jj je jk jl jh ji jf jb u9 jc ja yo ym yp yn gA gy gC gz gM gK gL ue zz jm qS jn gg yt yu gQ gT gS gN gO g8 jp jw jz jv jx jy j5 j3 jF jH uH uE uS uV uF uN uR uQ uP uO uL uA uB uC uD uT uJ uK uy uU uW uG uI uM uz jL jG jY j8 jI jT jX jW jV jU jR jD j0 jP jQ jA j7 j9 jJ jN jS jB gb j6 jC ga jO jK jM jE jZ jq ju jr gY g7 gW gZ g6 qm uo
attribute [local simp] faL fdL iaL ixL za q9 qN eqK eqL qL ze ut gV yk g9 yb yd yf yh yj ya ye yc yg zr LV.cells LV.whole qm uf zK jo stL zw zF zV qa.alloc ge gc gf gw gv gu gt gq gp gk gj gi gh qd ug
def qbf:List qf:=[⟨1,100,200,qiv⟩,⟨2,0,4000,qjt⟩]
theorem yR1:vH qbf 150=(100,200,0):=of_decide_eq_true (by kernel_rfl)
theorem yR2:zt qbf qbg 150 qcO=([1],0):=of_decide_eq_true (by kernel_rfl)
theorem yR3:zt qbf qbg 250 qcO=([2],0):=of_decide_eq_true (by kernel_rfl)
theorem yR4:(qM qbf qbg 150 1).1.length=2/\(qM qbf qbg 150 1).2.1.length=2/\(qM qbf qbg 150 1).2.2=0:=of_decide_eq_true (by kernel_rfl)
theorem ySm:(qbf.all fun c=>c.cls.all qak)=true:=by kernel_rfl
theorem yBs:(qbg.all fun a=>a.small)=true:=by kernel_rfl
theorem yAs:qcO.small=true:=by kernel_rfl
theorem yIn:qej qbf qbg where
 len:=by decide
 sm:=fun _ c hc=>⟨fun _ k hk=>qhD (List.all_eq_true.1 (List.all_eq_true.1 ySm c hc) k hk)⟩
 pos3:=fun _ c hc _ k hk=>by
  have:=List.all_eq_true.1 (List.all_eq_true.1 ySm c hc) k hk
  unfold qak at this
  simp only[Bool.and_eq_true,decide_eq_true_iff]at this
  rw[qjl]
  exact this.2.2.1
 hb:=by decide
 hok:=fun _ a ha=>Atom.small_ok (List.all_eq_true.1 yBs a ha)
set_option maxHeartbeats 1000000 in
theorem zJ(ob:List (Nat×qc))(n:Nat)(hni:qK ob){kv kp:HP}(hk:∀n',n<=n'->kv (.bool true) ⟨ob,n'⟩):cP E0 F0 21 [] ⟨ob,n⟩ kv kp:=by
 refine ub c21 fun hH=>⟨Nat.le_of_ble_eq_true rfl,?_⟩
 have hOb:qt ob n:=hH
 have ha:=Atom.small_ok yAs
 simp(disch:=omega)[b21]
 refine quI _ _ _ ?_
 simp(disch:=omega)
 refine quJ _ _ _ ?_
 simp(disch:=omega)
 refine(qkM qbf .full 150 yIn.toCustIn).go fun n1 hn1=>?_
 rw[yR1]
 simp(disch:=omega)
 refine qiO _ _ _ ?_
 simp(disch:=omega)
 refine qnz _ _ _ ?_
 simp(disch:=omega)
 refine wI yIn .full .no 150 qcO ha _ _ (hni.cons _ rfl) fun o1 n2 hn2=>?_
 rw[yR2]
 simp(disch:=omega)
 refine qiO _ _ _ ?_
 simp(disch:=omega)
 refine qnz _ _ _ ?_
 simp(disch:=omega)
 refine wI yIn .full .no 250 qcO ha _ _ (hni.cons _ rfl) fun o2 n3 hn3=>?_
 rw[yR3]
 simp(disch:=omega)
 refine qiO _ _ _ ?_
 simp(disch:=omega)
 refine qaa yIn .full .no 150 1 _ _ (hni.cons _ rfl) fun o3 o4 n4 hn4=>?_
 obtain⟨q1,q2,q3⟩:=yR4
 obtain⟨V,hV⟩:∃V,qM qbf qbg 150 1=V:=⟨_,rfl⟩
 rw[hV]at q1 q2 q3 ⊢
 simp(disch:=omega)[q1,q2,q3]
 refine(qku [1] o1 .full (by decide)).go fun n5 hn5=>?_
 simp(disch:=omega)[q1,q2,q3]
 refine(qku [2] o2 .full (by decide)).go fun n6 hn6=>?_
 simp(disch:=omega)[q1,q2,q3]
 exact⟨⟨ob,n6⟩,vl (hOb.mono hn1) (Nat.le_refl _),fun _=>hOb.mono (by dsimp only;omega),hk n6 (by omega)⟩
theorem qtx{l:List qe}(hl:l.length<=2^20)(h:∀k∈l,qe.ok3 k/\wF k=true):clOk l:=⟨hl,fun k hk=>by
 obtain⟨⟨h2,h3⟩,ho⟩:=h k hk
 unfold wF at ho
 simp only[Bool.and_eq_true,decide_eq_true_iff]at ho
 exact⟨h2.1,by omega,fun x hx=>(h2.2.2 x hx).1⟩⟩
theorem qgr{c x:qf}:∀{l:List qf},x∈qH c l->x=c\/x∈l
 |[],h=>.inl (List.mem_singleton.1 h)
 |y::r,h=>by
  unfold qH at h
  split at h
  ·rcases List.mem_cons.1 h with h|h
   ·exact .inr (List.mem_cons.2 (.inl h))
   ·rcases qgr h with h|h
    ·exact .inl h
    ·exact .inr (List.mem_cons.2 (.inr h))
  ·exact List.mem_cons.1 h
theorem qjL{l:List qf}{c:qf}(h:wY l c=0):(uu l).1=0/\(uu (qH c l)).1=0:=by
 unfold wY at h
 by_cases h1:(uu l).1≠0
 ·rw[if_pos h1]at h;exact absurd h h1
 rw[if_neg h1]at h
 by_cases h2:qcv l c.id=true
 ·rw[if_pos h2]at h;exact absurd h (by decide)
 rw[if_neg h2]at h
 exact⟨by omega,h⟩
theorem qwh{l:List qf}{y:Int}(h:zo l y=0)(hI:CustIn l)(x:Int):clOk (ql l y x):=by
 obtain⟨h30,hf⟩:=qbX h y x
 refine qtx (by omega) fun k hk=>?_
 obtain⟨c,hc,hkc⟩:=qgu hk
 obtain⟨h40,ho⟩:=qfv ((qbT (qcD h).1).1.ok c hc).2
 exact⟨(hI.sm (by omega) c hc).ok3 h40 k hkc,ho k hkc⟩
section
variable{l:List qf}{base:List Atom}
theorem qgh{A:List qf}{y:Int}{base:List Atom}{a:Atom}{now:Bool}:∀(r:List qf)(out:List Int),(ws A y base a now r out).1.length<=out.length+r.length
 |[],out=>Nat.le_refl _
 |c::r,out=>by
  unfold ws
  split
  ·split
   ·simp
   ·rw[List.length_cons]
    by_cases hn:z1 (ql A y c.id) base a=now
    ·rw[if_pos hn]
     have:=qgh (A:=A) (y:=y) (base:=base) (a:=a) (now:=now) r out
     omega
    ·rw[if_neg hn]
     have:=qgh (A:=A) (y:=y) (base:=base) (a:=a) (now:=now) r (out++[c.id])
     rw[List.length_append,List.length_singleton]at this
     omega
  ·have:=qgh (A:=A) (y:=y) (base:=base) (a:=a) (now:=now) r out
   rw[List.length_cons]
   omega
theorem qaw(l:List qf)(base:List Atom)(y:Int)(a:Atom):(zt l base y a).1.length<2^60:=by
 unfold zt
 split
 ·simp
 ·rename_i h
  have h30:=(qbX (l:=l) (y:=y) (by omega) y 0).1
  split
  ·simp
  ·split
   ·simp
   ·split
    ·simp
    ·have:=qgh (A:=l) (y:=y) (base:=base) (a:=a) (now:=z1 (ql l y 0) base a) l []
     simp only[List.length_nil]at this
     omega
theorem qmy{A B:List Atom}(hl:A.length<=300)(hg:∀a∈A,zf a):(vf A B).length<2^60/\∀a∈vf A B,a.ok:=by
 unfold vf
 have:=List.length_filter_le (fun x=>!qC B x) A
 exact⟨by omega,fun a ha=>qfy (hg a (List.mem_filter.1 ha).1).1⟩
theorem qaE(hI:qej l base)(y i:Int):((qM l base y i).1.length<2^60/\∀a∈(qM l base y i).1,a.ok)/\((qM l base y i).2.1.length<2^60/\∀a∈(qM l base y i).2.1,a.ok):=by
 by_cases h:wC l base y i=0
 ·rw[qow h]
  have ha:zo l y=0:=by
   unfold wC at h
   by_cases h1:zo l y≠0
   ·rw[if_pos h1]at h;exact absurd h h1
   ·omega
  obtain⟨_,_,_,_,hM⟩:=qdh hI ha y 0
  obtain⟨_,_,_,_,hM2⟩:=qdh hI ha y i
  exact⟨qmy hM.len hM.good,qmy hM2.len hM2.good⟩
 ·rw[qox h]
  exact⟨⟨by simp,fun a ha=>by cases ha⟩,by simp,fun a ha=>by cases ha⟩
theorem qoj{l:List qf}(h:qcz l=true):qbj l=true:=by
 unfold qcz at h
 split at h
 ·cases h
 ·simp only[Bool.and_eq_true]at h
  exact h.1
theorem qsc{l:List Atom}(h:qcj l=true):l.length<=100->∀x∈l,x.ok:=by
 intro hl x hx
 unfold qcj at h
 rw[if_neg (by omega)]at h
 split at h
 ·rename_i hall
  exact Atom.small_ok (List.all_eq_true.1 hall x hx)
 ·cases h
theorem qvl(hl:l.length<2^63)(hbl:base.length<2^63)(h1:qcz l=true)(h2:qcj base=true):qej l base:=by
 obtain⟨hI,_,hk⟩:=qlf hl (qoj h1)
 exact⟨hI,fun h30 c hc h40 k hkc=>by
  have:=hk h30 c hc h40 k hkc
  unfold qak at this
  simp only[Bool.and_eq_true,decide_eq_true_iff]at this
  rw[qjl]
  exact this.2.2.1,hbl,qsc h2⟩
end
theorem zx(zs:List Int)(hz:zs.length<2^60)(own:Own)(x:Int):qg 40 [.sl (ui zs) own,.int x] (.bool (zs.any fun z=>decide (z=x))):=by
 refine qg.of c40 fun H hH=>⟨Nat.le_of_ble_eq_true rfl,?_⟩
 simp(disch:=omega)[b40]
 obtain⟨V,hV⟩:∃V,(zs.any fun z=>decide (z=x))=V:=⟨_,rfl⟩
 rw[hV]
 refine qE (σ:=NN) (fun q=>(.nd (.sl (ui zs) own) (.nd (.int x) .nil (.nd (.int q.i) .nil .nil)) .nil)) (fun q=>⟨H.objs,q.n⟩) (fun q=>zs.length - q.i)
  (fun q=>H.next<=q.n/\q.i<=zs.length/\((zs.drop q.i).any fun z=>decide (z=x))=V) ⟨0,H.next⟩ ⟨Nat.le_refl _,Nat.zero_le _,hV⟩ (by simp[FT.Le,Wk]) ⟨HWk.refl _,fun h=>h⟩ ?_
 rintro⟨i,n⟩ ⟨hn,hi,he⟩ hok
 dsimp only at hn hi he
 by_cases hlt:i<zs.length
 case neg=>
  obtain rfl:i=zs.length:=by omega
  rw[List.drop_length,List.any_nil]at he
  simp(disch:=omega)
  exact qq hH (by simp[<-he])
 rw[List.drop_eq_getElem_cons hlt,List.any_cons]at he
 by_cases hx:zs[i]=x
 ·rw[decide_eq_true hx,Bool.true_or]at he
  simp(disch:=omega)[hlt,hx]
  exact qq hH (by simp[<-he])
 ·rw[decide_eq_false hx,Bool.false_or]at he
  simp(disch:=omega)[hlt,hx,qw (show i<2^62 by omega)]
  exact⟨⟨i+1,n⟩,by dsimp only;omega,⟨by dsimp only;omega,by dsimp only;omega,he⟩,by simp[FT.Le,Wk],HWk.refl _,fun h=>h⟩
theorem qn(B:List Atom)(a:Atom):qfN [a] B=qC B a:=by
 unfold qfN
 rw[List.all_cons,List.all_nil,Bool.and_true,Bool.eq_iff_iff,quB,qfh]
theorem qsr{l:List qf}{y:Int}(h:zo l y=0):(vH l y).1<=y/\y<=(vH l y).2.1/\(vH l y).2.2=0/\∀z,(vH l y).1<=z/\z<=(vH l y).2.1->ql l z 0=ql l y 0:=by
 obtain⟨hcu,hy⟩:=qcD h
 obtain⟨hC,_,_⟩:=qbT hcu
 have e:vH l y=(qcU (yE 4000 (zy l)) y,qcV (yE 4000 (zy l)) y,0):=by
  unfold vH
  rw[if_neg (by omega)]
 rw[e]
 obtain⟨a1,a2⟩:=qsq hC hy
 exact⟨a1,a2,rfl,fun z hz=>quS hC hy hz 0⟩
theorem qss{l:List qf}{y:Int}(h:zo l y≠0):(vH l y).2.2=zo l y:=by
 unfold vH
 rw[if_pos h]
structure qaI where
 i:Nat
 n:Nat
set_option maxHeartbeats 4000000 in
theorem qqV(l:List qf)(base:List Atom)(c:qf)(y z:Int)(a:Atom)(hl:l.length<2^63)(hb:qfJ l)(hbl:base.length<2^63)(hbc:∀k∈c.cls,k.body.length<2^63)(ob:List (Nat×qc))(n:Nat)(hni:qK ob){kv kp:HP}
  (hk:∀n',n<=n'->kv (.bool true) ⟨ob,n'⟩):cP E0 F0 7 [.sl (l.map qA) .no,.sl (base.map qh) .no,qA c,.int y,.int z,qh a] ⟨ob,n⟩ kv kp:=by
 refine ub c7 fun hH=>⟨Nat.le_of_ble_eq_true rfl,?_⟩
 simp(disch:=omega)[b7]
 refine(t_few l .no hl hb).go fun n1 hn1=>?_
 obtain⟨OB,hOB⟩:∃OB,(n+1,qc.cells [.str a.pred,qz a.args])::(n,.cells (qU c))::ob=OB:=⟨_,rfl⟩
 have hla:look (n+1) OB=some (.cells [.str a.pred,qz a.args]):=by rw[<-hOB];exact qm _ _ _
 have hlc:look n OB=some (.cells (qU c)):=by rw[<-hOB,qd (by omega)];exact qm _ _ _
 have hniO:qK OB:=by rw[<-hOB];exact(hni.cons _ rfl).cons _ rfl
 have fin1:∀(m:Nat)(ob1:List (Nat×qc)),(∀i,i<n+1+1->look i ob1=look i OB)->n<=m->∃H'',HWk ⟨ob1,m⟩ H''/\(qa.Ok ⟨ob1,m⟩->H''.Ok)/\kv (.bool true) H'':=fun m ob1 ho hm=>⟨⟨ob,m⟩,qde hH (fun i hi=>by rw[ho i (by omega),<-hOB,qd (by omega),qd (by omega)]) (Nat.le_refl _),fun _=>qt.mono hH hm,hk m hm⟩
 rw[hOB]
 cases h1:qcz l
 ·simp(disch:=omega)
  refine zJ _ _ hniO fun n2 hn2=>?_
  simp(disch:=omega)
  exact fin1 _ _ (fun _ _=>rfl) (by omega)
 simp(disch:=omega)
 refine(qqJ base (by omega)).go fun n2 hn2=>?_
 cases h2:qcj base
 ·simp(disch:=omega)
  refine zJ _ _ hniO fun n3 hn3=>?_
  simp(disch:=omega)
  exact fin1 _ _ (fun _ _=>rfl) (by omega)
 simp(disch:=omega)[hlc]
 refine(qkt 2 (by omega) c.cls hbc).go fun n2b hn2b=>?_
 cases h2b:qbk 2 c.cls
 ·simp(disch:=omega)
  refine zJ _ _ hniO fun n3 hn3=>?_
  simp(disch:=omega)
  exact fin1 _ _ (fun _ _=>rfl) (by omega)
 simp(disch:=omega)[hla]
 refine(qfR a).go fun n3 hn3=>?_
 cases h3:a.small
 ·simp(disch:=omega)
  refine zJ _ _ hniO fun n4 hn4=>?_
  simp(disch:=omega)
  exact fin1 _ _ (fun _ _=>rfl) (by omega)
 have hI:=qvl hl hbl h1 h2
 have ha:=Atom.small_ok h3
 obtain⟨_,h18,_⟩:=qlf hl (qoj h1)
 have hcs:qbb c.cls:=⟨fun hl k hk=>by
  unfold qbk at h2b
  rw[if_neg (by omega)]at h2b
  split at h2b
  ·rename_i hall
   exact qhD (List.all_eq_true.1 hall k hk)
  ·cases h2b⟩
 simp(disch:=omega)
 refine(qkM l .no y hI.toCustIn).go fun n4 hn4=>?_
 by_cases h5:zo l y=0
 case neg=>
  have hb5:=qss h5
  simp(disch:=omega)[hb5]
  refine(qhv l .no y hI.toCustIn h5).go fun n5 hn5=>?_
  simp(disch:=omega)
  by_cases h6:zo l z=0
  case neg=>
   refine(qhv l .no z hI.toCustIn h6).go fun n6 hn6=>?_
   simp(disch:=omega)[h5]
   refine zJ _ _ (hniO.cons _ rfl) fun n7 hn7=>?_
   simp(disch:=omega)
   exact fin1 _ _ (fun i hi=>qd (by omega) _ _) (by omega)
  refine(qbB l .no z hI.toCustIn h6).go fun n6 hn6=>?_
  simp(disch:=omega)[h5]
  refine zJ _ _ (hniO.cons _ rfl) fun n7 hn7=>?_
  simp(disch:=omega)
  exact fin1 _ _ (fun i hi=>qd (by omega) _ _) (by omega)
 obtain⟨g1,g2,g3,g4⟩:=qsr h5
 obtain⟨h30,_⟩:=qbX h5 y 0
 have hck:=qwh h5 hI.toCustIn 0
 obtain⟨_,_,_,hMI,hM⟩:=qdh hI h5 y 0
 rw[g3]
 obtain⟨LO,hLO⟩:∃x,(vH l y).1=x:=⟨_,rfl⟩
 obtain⟨HI,hHI⟩:∃x,(vH l y).2.1=x:=⟨_,rfl⟩
 rw[hLO]at g1 g4 ⊢
 rw[hHI]at g2 g4 ⊢
 simp(disch:=omega)
 refine(qbB l .no y hI.toCustIn h5).go fun n5 hn5=>?_
 simp(disch:=omega)
 by_cases h6:zo l z=0
 case neg=>
  refine(qhv l .no z hI.toCustIn h6).go fun n6 hn6=>?_
  simp(disch:=omega)[h6]
  refine zJ _ _ (hniO.cons _ rfl) fun n7 hn7=>?_
  simp(disch:=omega)
  exact fin1 _ _ (fun i hi=>qd (by omega) _ _) (by omega)
 refine(qbB l .no z hI.toCustIn h6).go fun n6 hn6=>?_
 have q1:¬y<LO:=by omega
 have q2:¬HI<y:=by omega
 by_cases q3:LO<=z
 case neg=>
  simp(disch:=omega)[q1,q2,q3,hlc]
  refine qhw l .no c hI.toCustIn hcs (by omega) _ _ (fun hz n8 hn8=>?_) (fun hz oA n8 hn8=>?_)
  ·simp(disch:=omega)[hz,hla]
   refine wI hI .no .no y a ha _ _ (hniO.cons _ rfl) fun oR n9 hn9=>?_
   by_cases hr:(zt l base y a).2=0
   case neg=>
    simp(disch:=omega)[hr]
    refine zJ _ _ (hniO.cons _ rfl) fun n10 hn10=>?_
    simp(disch:=omega)
    exact fin1 _ _ (fun i hi=>qd (by omega) _ _) (by omega)
   rw[hr]
   obtain⟨_,_,_,hr4,_,_⟩:=qac hr
   have hlen:=qaw l base y a
   obtain⟨IDS,hIDS⟩:∃IDS,(zt l base y a).1=IDS:=⟨_,rfl⟩
   rw[hIDS]at hlen ⊢
   simp(disch:=omega)[hla]
   refine wJ hMI hM .no a ha _ _ (hniO.cons _ rfl) fun n10 hn10=>?_
   rw[hr4]
   obtain⟨HB,hHB⟩:∃HB,z1 (ql l y 0) base a=HB:=⟨_,rfl⟩
   rw[hHB]
   simp(disch:=omega)
   refine qE (σ:=qaI) (fun q=>(.nd (.sl (l.map qA) .no) (.nd (.sl (base.map qh) .no) (.nd (.int y) (.nd .bot .nil (.nd (.sl (ui IDS) oR) .nil .nil)) (.nd (.ptr (n+1) 0) .nil (.nd (.int q.i) .nil .nil))) (.nd .bot (.nd .bot .nil (.nd (.bool HB) .nil .nil)) .nil)) .nil)) (fun q=>⟨(n4,.cells [.int LO,.int HI])::OB,q.n⟩) (fun q=>l.length - q.i)
    (fun q=>n10<=q.n/\q.i<=l.length) ⟨0,n10⟩ ⟨Nat.le_refl _,Nat.zero_le _⟩ (by simp[FT.Le,Wk]) ⟨HWk.refl _,fun h=>h⟩ ?_
   rintro⟨i,m⟩ ⟨hm,hi⟩ hok
   dsimp only at hm hi hok
   by_cases hlt:i<l.length
   case neg=>
    simp(disch:=omega)[hlt]
    refine zJ _ _ (hniO.cons _ rfl) fun n11 hn11=>?_
    simp(disch:=omega)
    exact fin1 _ _ (fun i hi=>qd (by omega) _ _) (by omega)
   obtain⟨hE,hPQ,hP1,hQ1⟩:=qaD hr (up hlt)
   rw[hIDS]at hPQ
   rw[hHB]at hP1 hQ1
   simp(disch:=omega)[hlt]
   refine qaa hI .no .no y l[i].id _ _ (hniO.cons _ rfl) fun o1 o2 n11 hn11=>?_
   obtain⟨⟨e1,e2⟩,e3,e4⟩:=qaE hI y l[i].id
   have v1:(qM l base y l[i].id).1=zM l base y l[i].id:=rfl
   have v2:(qM l base y l[i].id).2.1=zN l base y l[i].id:=rfl
   have v3:(qM l base y l[i].id).2.2=0:=hE
   rw[v1]at e1 e2
   rw[v2]at e3 e4
   rw[v1,v2,v3]
   obtain⟨EW,hEW⟩:∃EW,zM l base y l[i].id=EW:=⟨_,rfl⟩
   obtain⟨EO,hEO⟩:∃EO,zN l base y l[i].id=EO:=⟨_,rfl⟩
   rw[hEW]at e1 e2 hPQ hP1 ⊢
   rw[hEO]at e3 e4 hPQ hQ1 ⊢
   have wa:∀x∈[a],x.ok:=fun x hx=>by rw[List.mem_singleton]at hx;rw[hx];exact ha
   have hwi:IntKind.wrap .i64 ((i:Int)+1)=((i+1:Nat):Int):=qw (by omega)
   simp(disch:=omega)[hla]
   refine(qo [a] EW .full o1 (by simp) (by omega) wa e2).go fun n12 hn12=>?_
   rw[qn]
   cases hP:qC EW a
   ·cases hQ:qC EO a
    ·rw[hP,hQ]at hPQ
     simp(disch:=omega)[hla]
     refine(qo [a] EO .full o2 (by simp) (by omega) wa e4).go fun n13 hn13=>?_
     rw[qn,hQ]
     simp(disch:=omega)[hlt]
     refine(zx IDS hlen oR l[i].id).go fun n14 hn14=>?_
     rw[<-hPQ]
     simp(disch:=omega)[hla]
     refine(qo [a] EW .full o1 (by simp) (by omega) wa e2).go fun n15 hn15=>?_
     rw[qn,hP]
     simp(disch:=omega)[hla]
     refine(qo [a] EO .full o2 (by simp) (by omega) wa e4).go fun n16 hn16=>?_
     rw[qn,hQ]
     simp(disch:=omega)[hwi]
     exact⟨⟨i+1,n16⟩,by dsimp only;omega,⟨by dsimp only;omega,by dsimp only;omega⟩,by simp[FT.Le,Wk],HWk.refl _,fun h=>h⟩
    ·rw[hP,hQ]at hPQ
     have hH0:=hQ1 hQ
     subst hH0
     simp(disch:=omega)[hla]
     refine(qo [a] EO .full o2 (by simp) (by omega) wa e4).go fun n13 hn13=>?_
     rw[qn,hQ]
     simp(disch:=omega)[hlt]
     refine(zx IDS hlen oR l[i].id).go fun n14 hn14=>?_
     rw[<-hPQ]
     simp(disch:=omega)[hla]
     refine(qo [a] EW .full o1 (by simp) (by omega) wa e2).go fun n15 hn15=>?_
     rw[qn,hP]
     simp(disch:=omega)[hla]
     refine(qo [a] EO .full o2 (by simp) (by omega) wa e4).go fun n16 hn16=>?_
     rw[qn,hQ]
     simp(disch:=omega)[hwi]
     exact⟨⟨i+1,n16⟩,by dsimp only;omega,⟨by dsimp only;omega,by dsimp only;omega⟩,by simp[FT.Le,Wk],HWk.refl _,fun h=>h⟩
   ·have hH0:=hP1 hP
    have hQ:qC EO a=false:=by
     cases hq:qC EO a
     ·rfl
     ·have:=hQ1 hq
      rw[hH0]at this
      cases this
    rw[hP,hQ]at hPQ
    subst hH0
    simp(disch:=omega)[hlt]
    refine(zx IDS hlen oR l[i].id).go fun n14 hn14=>?_
    rw[<-hPQ]
    simp(disch:=omega)[hla]
    refine(qo [a] EW .full o1 (by simp) (by omega) wa e2).go fun n15 hn15=>?_
    rw[qn,hP]
    simp(disch:=omega)[hla]
    refine(qo [a] EO .full o2 (by simp) (by omega) wa e4).go fun n16 hn16=>?_
    rw[qn,hQ]
    simp(disch:=omega)[hwi]
    exact⟨⟨i+1,n16⟩,by dsimp only;omega,⟨by dsimp only;omega,by dsimp only;omega⟩,by simp[FT.Le,Wk],HWk.refl _,fun h=>h⟩
  ·obtain⟨a1,a2⟩:=qjL hz
   have hac:qby l c=qH c l:=by unfold qby;rw[if_pos hz]
   have hIA:CustIn (qH c l):=⟨by have:=(qbT a2).2.2;omega,fun _ x hx=>by
    rcases qgr hx with rfl|hx
    ·exact hcs
    ·exact hI.sm h30 x hx⟩
   have hout:¬(c.fr<=y/\y<=c.to)->zo (qH c l) y=0/\ql (qH c l) y 0=ql l y 0:=fun h=>by
    rw[<-hac]
    exact qjK hz (qcD h5).2 h
   by_cases hf1:y<c.fr
   ·obtain⟨b1,b2⟩:=hout (by omega)
    simp(disch:=omega)[hlc,hf1]
    refine(qbB (qH c l) oA y hIA b1).go fun n8b hn8b=>?_
    rw[b2]
    simp(disch:=omega)
    refine(qcQ (ql l y 0) .no .no hck).go fun n8c hn8c=>?_
    simp(disch:=omega)[hla]
    refine wI hI .no .no y a ha _ _ (hniO.cons _ rfl) fun oR n9 hn9=>?_
    by_cases hr:(zt l base y a).2=0
    case neg=>
     simp(disch:=omega)[hr]
     refine zJ _ _ (hniO.cons _ rfl) fun n10 hn10=>?_
     simp(disch:=omega)
     exact fin1 _ _ (fun i hi=>qd (by omega) _ _) (by omega)
    rw[hr]
    obtain⟨_,_,_,hr4,_,_⟩:=qac hr
    have hlen:=qaw l base y a
    obtain⟨IDS,hIDS⟩:∃IDS,(zt l base y a).1=IDS:=⟨_,rfl⟩
    rw[hIDS]at hlen ⊢
    simp(disch:=omega)[hla]
    refine wJ hMI hM .no a ha _ _ (hniO.cons _ rfl) fun n10 hn10=>?_
    rw[hr4]
    obtain⟨HB,hHB⟩:∃HB,z1 (ql l y 0) base a=HB:=⟨_,rfl⟩
    rw[hHB]
    simp(disch:=omega)
    refine qE (σ:=qaI) (fun q=>(.nd (.sl (l.map qA) .no) (.nd (.sl (base.map qh) .no) (.nd (.int y) (.nd .bot .nil (.nd (.sl (ui IDS) oR) .nil .nil)) (.nd (.ptr (n+1) 0) .nil (.nd (.int q.i) .nil .nil))) (.nd .bot (.nd .bot .nil (.nd (.bool HB) .nil .nil)) .nil)) .nil)) (fun q=>⟨(n4,.cells [.int LO,.int HI])::OB,q.n⟩) (fun q=>l.length - q.i)
     (fun q=>n10<=q.n/\q.i<=l.length) ⟨0,n10⟩ ⟨Nat.le_refl _,Nat.zero_le _⟩ (by simp[FT.Le,Wk]) ⟨HWk.refl _,fun h=>h⟩ ?_
    rintro⟨i,m⟩ ⟨hm,hi⟩ hok
    dsimp only at hm hi hok
    by_cases hlt:i<l.length
    case neg=>
     simp(disch:=omega)[hlt]
     refine zJ _ _ (hniO.cons _ rfl) fun n11 hn11=>?_
     simp(disch:=omega)
     exact fin1 _ _ (fun i hi=>qd (by omega) _ _) (by omega)
    obtain⟨hE,hPQ,hP1,hQ1⟩:=qaD hr (up hlt)
    rw[hIDS]at hPQ
    rw[hHB]at hP1 hQ1
    simp(disch:=omega)[hlt]
    refine qaa hI .no .no y l[i].id _ _ (hniO.cons _ rfl) fun o1 o2 n11 hn11=>?_
    obtain⟨⟨e1,e2⟩,e3,e4⟩:=qaE hI y l[i].id
    have v1:(qM l base y l[i].id).1=zM l base y l[i].id:=rfl
    have v2:(qM l base y l[i].id).2.1=zN l base y l[i].id:=rfl
    have v3:(qM l base y l[i].id).2.2=0:=hE
    rw[v1]at e1 e2
    rw[v2]at e3 e4
    rw[v1,v2,v3]
    obtain⟨EW,hEW⟩:∃EW,zM l base y l[i].id=EW:=⟨_,rfl⟩
    obtain⟨EO,hEO⟩:∃EO,zN l base y l[i].id=EO:=⟨_,rfl⟩
    rw[hEW]at e1 e2 hPQ hP1 ⊢
    rw[hEO]at e3 e4 hPQ hQ1 ⊢
    have wa:∀x∈[a],x.ok:=fun x hx=>by rw[List.mem_singleton]at hx;rw[hx];exact ha
    have hwi:IntKind.wrap .i64 ((i:Int)+1)=((i+1:Nat):Int):=qw (by omega)
    simp(disch:=omega)[hla]
    refine(qo [a] EW .full o1 (by simp) (by omega) wa e2).go fun n12 hn12=>?_
    rw[qn]
    cases hP:qC EW a
    ·cases hQ:qC EO a
     ·rw[hP,hQ]at hPQ
      simp(disch:=omega)[hla]
      refine(qo [a] EO .full o2 (by simp) (by omega) wa e4).go fun n13 hn13=>?_
      rw[qn,hQ]
      simp(disch:=omega)[hlt]
      refine(zx IDS hlen oR l[i].id).go fun n14 hn14=>?_
      rw[<-hPQ]
      simp(disch:=omega)[hla]
      refine(qo [a] EW .full o1 (by simp) (by omega) wa e2).go fun n15 hn15=>?_
      rw[qn,hP]
      simp(disch:=omega)[hla]
      refine(qo [a] EO .full o2 (by simp) (by omega) wa e4).go fun n16 hn16=>?_
      rw[qn,hQ]
      simp(disch:=omega)[hwi]
      exact⟨⟨i+1,n16⟩,by dsimp only;omega,⟨by dsimp only;omega,by dsimp only;omega⟩,by simp[FT.Le,Wk],HWk.refl _,fun h=>h⟩
     ·rw[hP,hQ]at hPQ
      have hH0:=hQ1 hQ
      subst hH0
      simp(disch:=omega)[hla]
      refine(qo [a] EO .full o2 (by simp) (by omega) wa e4).go fun n13 hn13=>?_
      rw[qn,hQ]
      simp(disch:=omega)[hlt]
      refine(zx IDS hlen oR l[i].id).go fun n14 hn14=>?_
      rw[<-hPQ]
      simp(disch:=omega)[hla]
      refine(qo [a] EW .full o1 (by simp) (by omega) wa e2).go fun n15 hn15=>?_
      rw[qn,hP]
      simp(disch:=omega)[hla]
      refine(qo [a] EO .full o2 (by simp) (by omega) wa e4).go fun n16 hn16=>?_
      rw[qn,hQ]
      simp(disch:=omega)[hwi]
      exact⟨⟨i+1,n16⟩,by dsimp only;omega,⟨by dsimp only;omega,by dsimp only;omega⟩,by simp[FT.Le,Wk],HWk.refl _,fun h=>h⟩
    ·have hH0:=hP1 hP
     have hQ:qC EO a=false:=by
      cases hq:qC EO a
      ·rfl
      ·have:=hQ1 hq
       rw[hH0]at this
       cases this
     rw[hP,hQ]at hPQ
     subst hH0
     simp(disch:=omega)[hlt]
     refine(zx IDS hlen oR l[i].id).go fun n14 hn14=>?_
     rw[<-hPQ]
     simp(disch:=omega)[hla]
     refine(qo [a] EW .full o1 (by simp) (by omega) wa e2).go fun n15 hn15=>?_
     rw[qn,hP]
     simp(disch:=omega)[hla]
     refine(qo [a] EO .full o2 (by simp) (by omega) wa e4).go fun n16 hn16=>?_
     rw[qn,hQ]
     simp(disch:=omega)[hwi]
     exact⟨⟨i+1,n16⟩,by dsimp only;omega,⟨by dsimp only;omega,by dsimp only;omega⟩,by simp[FT.Le,Wk],HWk.refl _,fun h=>h⟩
   by_cases hf2:c.to<y
   ·obtain⟨b1,b2⟩:=hout (by omega)
    simp(disch:=omega)[hlc,hf1,hf2]
    refine(qbB (qH c l) oA y hIA b1).go fun n8b hn8b=>?_
    rw[b2]
    simp(disch:=omega)
    refine(qcQ (ql l y 0) .no .no hck).go fun n8c hn8c=>?_
    simp(disch:=omega)[hla]
    refine wI hI .no .no y a ha _ _ (hniO.cons _ rfl) fun oR n9 hn9=>?_
    by_cases hr:(zt l base y a).2=0
    case neg=>
     simp(disch:=omega)[hr]
     refine zJ _ _ (hniO.cons _ rfl) fun n10 hn10=>?_
     simp(disch:=omega)
     exact fin1 _ _ (fun i hi=>qd (by omega) _ _) (by omega)
    rw[hr]
    obtain⟨_,_,_,hr4,_,_⟩:=qac hr
    have hlen:=qaw l base y a
    obtain⟨IDS,hIDS⟩:∃IDS,(zt l base y a).1=IDS:=⟨_,rfl⟩
    rw[hIDS]at hlen ⊢
    simp(disch:=omega)[hla]
    refine wJ hMI hM .no a ha _ _ (hniO.cons _ rfl) fun n10 hn10=>?_
    rw[hr4]
    obtain⟨HB,hHB⟩:∃HB,z1 (ql l y 0) base a=HB:=⟨_,rfl⟩
    rw[hHB]
    simp(disch:=omega)
    refine qE (σ:=qaI) (fun q=>(.nd (.sl (l.map qA) .no) (.nd (.sl (base.map qh) .no) (.nd (.int y) (.nd .bot .nil (.nd (.sl (ui IDS) oR) .nil .nil)) (.nd (.ptr (n+1) 0) .nil (.nd (.int q.i) .nil .nil))) (.nd .bot (.nd .bot .nil (.nd (.bool HB) .nil .nil)) .nil)) .nil)) (fun q=>⟨(n4,.cells [.int LO,.int HI])::OB,q.n⟩) (fun q=>l.length - q.i)
     (fun q=>n10<=q.n/\q.i<=l.length) ⟨0,n10⟩ ⟨Nat.le_refl _,Nat.zero_le _⟩ (by simp[FT.Le,Wk]) ⟨HWk.refl _,fun h=>h⟩ ?_
    rintro⟨i,m⟩ ⟨hm,hi⟩ hok
    dsimp only at hm hi hok
    by_cases hlt:i<l.length
    case neg=>
     simp(disch:=omega)[hlt]
     refine zJ _ _ (hniO.cons _ rfl) fun n11 hn11=>?_
     simp(disch:=omega)
     exact fin1 _ _ (fun i hi=>qd (by omega) _ _) (by omega)
    obtain⟨hE,hPQ,hP1,hQ1⟩:=qaD hr (up hlt)
    rw[hIDS]at hPQ
    rw[hHB]at hP1 hQ1
    simp(disch:=omega)[hlt]
    refine qaa hI .no .no y l[i].id _ _ (hniO.cons _ rfl) fun o1 o2 n11 hn11=>?_
    obtain⟨⟨e1,e2⟩,e3,e4⟩:=qaE hI y l[i].id
    have v1:(qM l base y l[i].id).1=zM l base y l[i].id:=rfl
    have v2:(qM l base y l[i].id).2.1=zN l base y l[i].id:=rfl
    have v3:(qM l base y l[i].id).2.2=0:=hE
    rw[v1]at e1 e2
    rw[v2]at e3 e4
    rw[v1,v2,v3]
    obtain⟨EW,hEW⟩:∃EW,zM l base y l[i].id=EW:=⟨_,rfl⟩
    obtain⟨EO,hEO⟩:∃EO,zN l base y l[i].id=EO:=⟨_,rfl⟩
    rw[hEW]at e1 e2 hPQ hP1 ⊢
    rw[hEO]at e3 e4 hPQ hQ1 ⊢
    have wa:∀x∈[a],x.ok:=fun x hx=>by rw[List.mem_singleton]at hx;rw[hx];exact ha
    have hwi:IntKind.wrap .i64 ((i:Int)+1)=((i+1:Nat):Int):=qw (by omega)
    simp(disch:=omega)[hla]
    refine(qo [a] EW .full o1 (by simp) (by omega) wa e2).go fun n12 hn12=>?_
    rw[qn]
    cases hP:qC EW a
    ·cases hQ:qC EO a
     ·rw[hP,hQ]at hPQ
      simp(disch:=omega)[hla]
      refine(qo [a] EO .full o2 (by simp) (by omega) wa e4).go fun n13 hn13=>?_
      rw[qn,hQ]
      simp(disch:=omega)[hlt]
      refine(zx IDS hlen oR l[i].id).go fun n14 hn14=>?_
      rw[<-hPQ]
      simp(disch:=omega)[hla]
      refine(qo [a] EW .full o1 (by simp) (by omega) wa e2).go fun n15 hn15=>?_
      rw[qn,hP]
      simp(disch:=omega)[hla]
      refine(qo [a] EO .full o2 (by simp) (by omega) wa e4).go fun n16 hn16=>?_
      rw[qn,hQ]
      simp(disch:=omega)[hwi]
      exact⟨⟨i+1,n16⟩,by dsimp only;omega,⟨by dsimp only;omega,by dsimp only;omega⟩,by simp[FT.Le,Wk],HWk.refl _,fun h=>h⟩
     ·rw[hP,hQ]at hPQ
      have hH0:=hQ1 hQ
      subst hH0
      simp(disch:=omega)[hla]
      refine(qo [a] EO .full o2 (by simp) (by omega) wa e4).go fun n13 hn13=>?_
      rw[qn,hQ]
      simp(disch:=omega)[hlt]
      refine(zx IDS hlen oR l[i].id).go fun n14 hn14=>?_
      rw[<-hPQ]
      simp(disch:=omega)[hla]
      refine(qo [a] EW .full o1 (by simp) (by omega) wa e2).go fun n15 hn15=>?_
      rw[qn,hP]
      simp(disch:=omega)[hla]
      refine(qo [a] EO .full o2 (by simp) (by omega) wa e4).go fun n16 hn16=>?_
      rw[qn,hQ]
      simp(disch:=omega)[hwi]
      exact⟨⟨i+1,n16⟩,by dsimp only;omega,⟨by dsimp only;omega,by dsimp only;omega⟩,by simp[FT.Le,Wk],HWk.refl _,fun h=>h⟩
    ·have hH0:=hP1 hP
     have hQ:qC EO a=false:=by
      cases hq:qC EO a
      ·rfl
      ·have:=hQ1 hq
       rw[hH0]at this
       cases this
     rw[hP,hQ]at hPQ
     subst hH0
     simp(disch:=omega)[hlt]
     refine(zx IDS hlen oR l[i].id).go fun n14 hn14=>?_
     rw[<-hPQ]
     simp(disch:=omega)[hla]
     refine(qo [a] EW .full o1 (by simp) (by omega) wa e2).go fun n15 hn15=>?_
     rw[qn,hP]
     simp(disch:=omega)[hla]
     refine(qo [a] EO .full o2 (by simp) (by omega) wa e4).go fun n16 hn16=>?_
     rw[qn,hQ]
     simp(disch:=omega)[hwi]
     exact⟨⟨i+1,n16⟩,by dsimp only;omega,⟨by dsimp only;omega,by dsimp only;omega⟩,by simp[FT.Le,Wk],HWk.refl _,fun h=>h⟩
   ·simp(disch:=omega)[hlc,hf1,hf2,hla]
    refine wI hI .no .no y a ha _ _ (hniO.cons _ rfl) fun oR n9 hn9=>?_
    by_cases hr:(zt l base y a).2=0
    case neg=>
     simp(disch:=omega)[hr]
     refine zJ _ _ (hniO.cons _ rfl) fun n10 hn10=>?_
     simp(disch:=omega)
     exact fin1 _ _ (fun i hi=>qd (by omega) _ _) (by omega)
    rw[hr]
    obtain⟨_,_,_,hr4,_,_⟩:=qac hr
    have hlen:=qaw l base y a
    obtain⟨IDS,hIDS⟩:∃IDS,(zt l base y a).1=IDS:=⟨_,rfl⟩
    rw[hIDS]at hlen ⊢
    simp(disch:=omega)[hla]
    refine wJ hMI hM .no a ha _ _ (hniO.cons _ rfl) fun n10 hn10=>?_
    rw[hr4]
    obtain⟨HB,hHB⟩:∃HB,z1 (ql l y 0) base a=HB:=⟨_,rfl⟩
    rw[hHB]
    simp(disch:=omega)
    refine qE (σ:=qaI) (fun q=>(.nd (.sl (l.map qA) .no) (.nd (.sl (base.map qh) .no) (.nd (.int y) (.nd .bot .nil (.nd (.sl (ui IDS) oR) .nil .nil)) (.nd (.ptr (n+1) 0) .nil (.nd (.int q.i) .nil .nil))) (.nd .bot (.nd .bot .nil (.nd (.bool HB) .nil .nil)) .nil)) .nil)) (fun q=>⟨(n4,.cells [.int LO,.int HI])::OB,q.n⟩) (fun q=>l.length - q.i)
     (fun q=>n10<=q.n/\q.i<=l.length) ⟨0,n10⟩ ⟨Nat.le_refl _,Nat.zero_le _⟩ (by simp[FT.Le,Wk]) ⟨HWk.refl _,fun h=>h⟩ ?_
    rintro⟨i,m⟩ ⟨hm,hi⟩ hok
    dsimp only at hm hi hok
    by_cases hlt:i<l.length
    case neg=>
     simp(disch:=omega)[hlt]
     refine zJ _ _ (hniO.cons _ rfl) fun n11 hn11=>?_
     simp(disch:=omega)
     exact fin1 _ _ (fun i hi=>qd (by omega) _ _) (by omega)
    obtain⟨hE,hPQ,hP1,hQ1⟩:=qaD hr (up hlt)
    rw[hIDS]at hPQ
    rw[hHB]at hP1 hQ1
    simp(disch:=omega)[hlt]
    refine qaa hI .no .no y l[i].id _ _ (hniO.cons _ rfl) fun o1 o2 n11 hn11=>?_
    obtain⟨⟨e1,e2⟩,e3,e4⟩:=qaE hI y l[i].id
    have v1:(qM l base y l[i].id).1=zM l base y l[i].id:=rfl
    have v2:(qM l base y l[i].id).2.1=zN l base y l[i].id:=rfl
    have v3:(qM l base y l[i].id).2.2=0:=hE
    rw[v1]at e1 e2
    rw[v2]at e3 e4
    rw[v1,v2,v3]
    obtain⟨EW,hEW⟩:∃EW,zM l base y l[i].id=EW:=⟨_,rfl⟩
    obtain⟨EO,hEO⟩:∃EO,zN l base y l[i].id=EO:=⟨_,rfl⟩
    rw[hEW]at e1 e2 hPQ hP1 ⊢
    rw[hEO]at e3 e4 hPQ hQ1 ⊢
    have wa:∀x∈[a],x.ok:=fun x hx=>by rw[List.mem_singleton]at hx;rw[hx];exact ha
    have hwi:IntKind.wrap .i64 ((i:Int)+1)=((i+1:Nat):Int):=qw (by omega)
    simp(disch:=omega)[hla]
    refine(qo [a] EW .full o1 (by simp) (by omega) wa e2).go fun n12 hn12=>?_
    rw[qn]
    cases hP:qC EW a
    ·cases hQ:qC EO a
     ·rw[hP,hQ]at hPQ
      simp(disch:=omega)[hla]
      refine(qo [a] EO .full o2 (by simp) (by omega) wa e4).go fun n13 hn13=>?_
      rw[qn,hQ]
      simp(disch:=omega)[hlt]
      refine(zx IDS hlen oR l[i].id).go fun n14 hn14=>?_
      rw[<-hPQ]
      simp(disch:=omega)[hla]
      refine(qo [a] EW .full o1 (by simp) (by omega) wa e2).go fun n15 hn15=>?_
      rw[qn,hP]
      simp(disch:=omega)[hla]
      refine(qo [a] EO .full o2 (by simp) (by omega) wa e4).go fun n16 hn16=>?_
      rw[qn,hQ]
      simp(disch:=omega)[hwi]
      exact⟨⟨i+1,n16⟩,by dsimp only;omega,⟨by dsimp only;omega,by dsimp only;omega⟩,by simp[FT.Le,Wk],HWk.refl _,fun h=>h⟩
     ·rw[hP,hQ]at hPQ
      have hH0:=hQ1 hQ
      subst hH0
      simp(disch:=omega)[hla]
      refine(qo [a] EO .full o2 (by simp) (by omega) wa e4).go fun n13 hn13=>?_
      rw[qn,hQ]
      simp(disch:=omega)[hlt]
      refine(zx IDS hlen oR l[i].id).go fun n14 hn14=>?_
      rw[<-hPQ]
      simp(disch:=omega)[hla]
      refine(qo [a] EW .full o1 (by simp) (by omega) wa e2).go fun n15 hn15=>?_
      rw[qn,hP]
      simp(disch:=omega)[hla]
      refine(qo [a] EO .full o2 (by simp) (by omega) wa e4).go fun n16 hn16=>?_
      rw[qn,hQ]
      simp(disch:=omega)[hwi]
      exact⟨⟨i+1,n16⟩,by dsimp only;omega,⟨by dsimp only;omega,by dsimp only;omega⟩,by simp[FT.Le,Wk],HWk.refl _,fun h=>h⟩
    ·have hH0:=hP1 hP
     have hQ:qC EO a=false:=by
      cases hq:qC EO a
      ·rfl
      ·have:=hQ1 hq
       rw[hH0]at this
       cases this
     rw[hP,hQ]at hPQ
     subst hH0
     simp(disch:=omega)[hlt]
     refine(zx IDS hlen oR l[i].id).go fun n14 hn14=>?_
     rw[<-hPQ]
     simp(disch:=omega)[hla]
     refine(qo [a] EW .full o1 (by simp) (by omega) wa e2).go fun n15 hn15=>?_
     rw[qn,hP]
     simp(disch:=omega)[hla]
     refine(qo [a] EO .full o2 (by simp) (by omega) wa e4).go fun n16 hn16=>?_
     rw[qn,hQ]
     simp(disch:=omega)[hwi]
     exact⟨⟨i+1,n16⟩,by dsimp only;omega,⟨by dsimp only;omega,by dsimp only;omega⟩,by simp[FT.Le,Wk],HWk.refl _,fun h=>h⟩
 by_cases q4:z<=HI
 case neg=>
  simp(disch:=omega)[q1,q2,q3,q4,hlc]
  refine qhw l .no c hI.toCustIn hcs (by omega) _ _ (fun hz n8 hn8=>?_) (fun hz oA n8 hn8=>?_)
  ·simp(disch:=omega)[hz,hla]
   refine wI hI .no .no y a ha _ _ (hniO.cons _ rfl) fun oR n9 hn9=>?_
   by_cases hr:(zt l base y a).2=0
   case neg=>
    simp(disch:=omega)[hr]
    refine zJ _ _ (hniO.cons _ rfl) fun n10 hn10=>?_
    simp(disch:=omega)
    exact fin1 _ _ (fun i hi=>qd (by omega) _ _) (by omega)
   rw[hr]
   obtain⟨_,_,_,hr4,_,_⟩:=qac hr
   have hlen:=qaw l base y a
   obtain⟨IDS,hIDS⟩:∃IDS,(zt l base y a).1=IDS:=⟨_,rfl⟩
   rw[hIDS]at hlen ⊢
   simp(disch:=omega)[hla]
   refine wJ hMI hM .no a ha _ _ (hniO.cons _ rfl) fun n10 hn10=>?_
   rw[hr4]
   obtain⟨HB,hHB⟩:∃HB,z1 (ql l y 0) base a=HB:=⟨_,rfl⟩
   rw[hHB]
   simp(disch:=omega)
   refine qE (σ:=qaI) (fun q=>(.nd (.sl (l.map qA) .no) (.nd (.sl (base.map qh) .no) (.nd (.int y) (.nd .bot .nil (.nd (.sl (ui IDS) oR) .nil .nil)) (.nd (.ptr (n+1) 0) .nil (.nd (.int q.i) .nil .nil))) (.nd .bot (.nd .bot .nil (.nd (.bool HB) .nil .nil)) .nil)) .nil)) (fun q=>⟨(n4,.cells [.int LO,.int HI])::OB,q.n⟩) (fun q=>l.length - q.i)
    (fun q=>n10<=q.n/\q.i<=l.length) ⟨0,n10⟩ ⟨Nat.le_refl _,Nat.zero_le _⟩ (by simp[FT.Le,Wk]) ⟨HWk.refl _,fun h=>h⟩ ?_
   rintro⟨i,m⟩ ⟨hm,hi⟩ hok
   dsimp only at hm hi hok
   by_cases hlt:i<l.length
   case neg=>
    simp(disch:=omega)[hlt]
    refine zJ _ _ (hniO.cons _ rfl) fun n11 hn11=>?_
    simp(disch:=omega)
    exact fin1 _ _ (fun i hi=>qd (by omega) _ _) (by omega)
   obtain⟨hE,hPQ,hP1,hQ1⟩:=qaD hr (up hlt)
   rw[hIDS]at hPQ
   rw[hHB]at hP1 hQ1
   simp(disch:=omega)[hlt]
   refine qaa hI .no .no y l[i].id _ _ (hniO.cons _ rfl) fun o1 o2 n11 hn11=>?_
   obtain⟨⟨e1,e2⟩,e3,e4⟩:=qaE hI y l[i].id
   have v1:(qM l base y l[i].id).1=zM l base y l[i].id:=rfl
   have v2:(qM l base y l[i].id).2.1=zN l base y l[i].id:=rfl
   have v3:(qM l base y l[i].id).2.2=0:=hE
   rw[v1]at e1 e2
   rw[v2]at e3 e4
   rw[v1,v2,v3]
   obtain⟨EW,hEW⟩:∃EW,zM l base y l[i].id=EW:=⟨_,rfl⟩
   obtain⟨EO,hEO⟩:∃EO,zN l base y l[i].id=EO:=⟨_,rfl⟩
   rw[hEW]at e1 e2 hPQ hP1 ⊢
   rw[hEO]at e3 e4 hPQ hQ1 ⊢
   have wa:∀x∈[a],x.ok:=fun x hx=>by rw[List.mem_singleton]at hx;rw[hx];exact ha
   have hwi:IntKind.wrap .i64 ((i:Int)+1)=((i+1:Nat):Int):=qw (by omega)
   simp(disch:=omega)[hla]
   refine(qo [a] EW .full o1 (by simp) (by omega) wa e2).go fun n12 hn12=>?_
   rw[qn]
   cases hP:qC EW a
   ·cases hQ:qC EO a
    ·rw[hP,hQ]at hPQ
     simp(disch:=omega)[hla]
     refine(qo [a] EO .full o2 (by simp) (by omega) wa e4).go fun n13 hn13=>?_
     rw[qn,hQ]
     simp(disch:=omega)[hlt]
     refine(zx IDS hlen oR l[i].id).go fun n14 hn14=>?_
     rw[<-hPQ]
     simp(disch:=omega)[hla]
     refine(qo [a] EW .full o1 (by simp) (by omega) wa e2).go fun n15 hn15=>?_
     rw[qn,hP]
     simp(disch:=omega)[hla]
     refine(qo [a] EO .full o2 (by simp) (by omega) wa e4).go fun n16 hn16=>?_
     rw[qn,hQ]
     simp(disch:=omega)[hwi]
     exact⟨⟨i+1,n16⟩,by dsimp only;omega,⟨by dsimp only;omega,by dsimp only;omega⟩,by simp[FT.Le,Wk],HWk.refl _,fun h=>h⟩
    ·rw[hP,hQ]at hPQ
     have hH0:=hQ1 hQ
     subst hH0
     simp(disch:=omega)[hla]
     refine(qo [a] EO .full o2 (by simp) (by omega) wa e4).go fun n13 hn13=>?_
     rw[qn,hQ]
     simp(disch:=omega)[hlt]
     refine(zx IDS hlen oR l[i].id).go fun n14 hn14=>?_
     rw[<-hPQ]
     simp(disch:=omega)[hla]
     refine(qo [a] EW .full o1 (by simp) (by omega) wa e2).go fun n15 hn15=>?_
     rw[qn,hP]
     simp(disch:=omega)[hla]
     refine(qo [a] EO .full o2 (by simp) (by omega) wa e4).go fun n16 hn16=>?_
     rw[qn,hQ]
     simp(disch:=omega)[hwi]
     exact⟨⟨i+1,n16⟩,by dsimp only;omega,⟨by dsimp only;omega,by dsimp only;omega⟩,by simp[FT.Le,Wk],HWk.refl _,fun h=>h⟩
   ·have hH0:=hP1 hP
    have hQ:qC EO a=false:=by
     cases hq:qC EO a
     ·rfl
     ·have:=hQ1 hq
      rw[hH0]at this
      cases this
    rw[hP,hQ]at hPQ
    subst hH0
    simp(disch:=omega)[hlt]
    refine(zx IDS hlen oR l[i].id).go fun n14 hn14=>?_
    rw[<-hPQ]
    simp(disch:=omega)[hla]
    refine(qo [a] EW .full o1 (by simp) (by omega) wa e2).go fun n15 hn15=>?_
    rw[qn,hP]
    simp(disch:=omega)[hla]
    refine(qo [a] EO .full o2 (by simp) (by omega) wa e4).go fun n16 hn16=>?_
    rw[qn,hQ]
    simp(disch:=omega)[hwi]
    exact⟨⟨i+1,n16⟩,by dsimp only;omega,⟨by dsimp only;omega,by dsimp only;omega⟩,by simp[FT.Le,Wk],HWk.refl _,fun h=>h⟩
  ·obtain⟨a1,a2⟩:=qjL hz
   have hac:qby l c=qH c l:=by unfold qby;rw[if_pos hz]
   have hIA:CustIn (qH c l):=⟨by have:=(qbT a2).2.2;omega,fun _ x hx=>by
    rcases qgr hx with rfl|hx
    ·exact hcs
    ·exact hI.sm h30 x hx⟩
   have hout:¬(c.fr<=y/\y<=c.to)->zo (qH c l) y=0/\ql (qH c l) y 0=ql l y 0:=fun h=>by
    rw[<-hac]
    exact qjK hz (qcD h5).2 h
   by_cases hf1:y<c.fr
   ·obtain⟨b1,b2⟩:=hout (by omega)
    simp(disch:=omega)[hlc,hf1]
    refine(qbB (qH c l) oA y hIA b1).go fun n8b hn8b=>?_
    rw[b2]
    simp(disch:=omega)
    refine(qcQ (ql l y 0) .no .no hck).go fun n8c hn8c=>?_
    simp(disch:=omega)[hla]
    refine wI hI .no .no y a ha _ _ (hniO.cons _ rfl) fun oR n9 hn9=>?_
    by_cases hr:(zt l base y a).2=0
    case neg=>
     simp(disch:=omega)[hr]
     refine zJ _ _ (hniO.cons _ rfl) fun n10 hn10=>?_
     simp(disch:=omega)
     exact fin1 _ _ (fun i hi=>qd (by omega) _ _) (by omega)
    rw[hr]
    obtain⟨_,_,_,hr4,_,_⟩:=qac hr
    have hlen:=qaw l base y a
    obtain⟨IDS,hIDS⟩:∃IDS,(zt l base y a).1=IDS:=⟨_,rfl⟩
    rw[hIDS]at hlen ⊢
    simp(disch:=omega)[hla]
    refine wJ hMI hM .no a ha _ _ (hniO.cons _ rfl) fun n10 hn10=>?_
    rw[hr4]
    obtain⟨HB,hHB⟩:∃HB,z1 (ql l y 0) base a=HB:=⟨_,rfl⟩
    rw[hHB]
    simp(disch:=omega)
    refine qE (σ:=qaI) (fun q=>(.nd (.sl (l.map qA) .no) (.nd (.sl (base.map qh) .no) (.nd (.int y) (.nd .bot .nil (.nd (.sl (ui IDS) oR) .nil .nil)) (.nd (.ptr (n+1) 0) .nil (.nd (.int q.i) .nil .nil))) (.nd .bot (.nd .bot .nil (.nd (.bool HB) .nil .nil)) .nil)) .nil)) (fun q=>⟨(n4,.cells [.int LO,.int HI])::OB,q.n⟩) (fun q=>l.length - q.i)
     (fun q=>n10<=q.n/\q.i<=l.length) ⟨0,n10⟩ ⟨Nat.le_refl _,Nat.zero_le _⟩ (by simp[FT.Le,Wk]) ⟨HWk.refl _,fun h=>h⟩ ?_
    rintro⟨i,m⟩ ⟨hm,hi⟩ hok
    dsimp only at hm hi hok
    by_cases hlt:i<l.length
    case neg=>
     simp(disch:=omega)[hlt]
     refine zJ _ _ (hniO.cons _ rfl) fun n11 hn11=>?_
     simp(disch:=omega)
     exact fin1 _ _ (fun i hi=>qd (by omega) _ _) (by omega)
    obtain⟨hE,hPQ,hP1,hQ1⟩:=qaD hr (up hlt)
    rw[hIDS]at hPQ
    rw[hHB]at hP1 hQ1
    simp(disch:=omega)[hlt]
    refine qaa hI .no .no y l[i].id _ _ (hniO.cons _ rfl) fun o1 o2 n11 hn11=>?_
    obtain⟨⟨e1,e2⟩,e3,e4⟩:=qaE hI y l[i].id
    have v1:(qM l base y l[i].id).1=zM l base y l[i].id:=rfl
    have v2:(qM l base y l[i].id).2.1=zN l base y l[i].id:=rfl
    have v3:(qM l base y l[i].id).2.2=0:=hE
    rw[v1]at e1 e2
    rw[v2]at e3 e4
    rw[v1,v2,v3]
    obtain⟨EW,hEW⟩:∃EW,zM l base y l[i].id=EW:=⟨_,rfl⟩
    obtain⟨EO,hEO⟩:∃EO,zN l base y l[i].id=EO:=⟨_,rfl⟩
    rw[hEW]at e1 e2 hPQ hP1 ⊢
    rw[hEO]at e3 e4 hPQ hQ1 ⊢
    have wa:∀x∈[a],x.ok:=fun x hx=>by rw[List.mem_singleton]at hx;rw[hx];exact ha
    have hwi:IntKind.wrap .i64 ((i:Int)+1)=((i+1:Nat):Int):=qw (by omega)
    simp(disch:=omega)[hla]
    refine(qo [a] EW .full o1 (by simp) (by omega) wa e2).go fun n12 hn12=>?_
    rw[qn]
    cases hP:qC EW a
    ·cases hQ:qC EO a
     ·rw[hP,hQ]at hPQ
      simp(disch:=omega)[hla]
      refine(qo [a] EO .full o2 (by simp) (by omega) wa e4).go fun n13 hn13=>?_
      rw[qn,hQ]
      simp(disch:=omega)[hlt]
      refine(zx IDS hlen oR l[i].id).go fun n14 hn14=>?_
      rw[<-hPQ]
      simp(disch:=omega)[hla]
      refine(qo [a] EW .full o1 (by simp) (by omega) wa e2).go fun n15 hn15=>?_
      rw[qn,hP]
      simp(disch:=omega)[hla]
      refine(qo [a] EO .full o2 (by simp) (by omega) wa e4).go fun n16 hn16=>?_
      rw[qn,hQ]
      simp(disch:=omega)[hwi]
      exact⟨⟨i+1,n16⟩,by dsimp only;omega,⟨by dsimp only;omega,by dsimp only;omega⟩,by simp[FT.Le,Wk],HWk.refl _,fun h=>h⟩
     ·rw[hP,hQ]at hPQ
      have hH0:=hQ1 hQ
      subst hH0
      simp(disch:=omega)[hla]
      refine(qo [a] EO .full o2 (by simp) (by omega) wa e4).go fun n13 hn13=>?_
      rw[qn,hQ]
      simp(disch:=omega)[hlt]
      refine(zx IDS hlen oR l[i].id).go fun n14 hn14=>?_
      rw[<-hPQ]
      simp(disch:=omega)[hla]
      refine(qo [a] EW .full o1 (by simp) (by omega) wa e2).go fun n15 hn15=>?_
      rw[qn,hP]
      simp(disch:=omega)[hla]
      refine(qo [a] EO .full o2 (by simp) (by omega) wa e4).go fun n16 hn16=>?_
      rw[qn,hQ]
      simp(disch:=omega)[hwi]
      exact⟨⟨i+1,n16⟩,by dsimp only;omega,⟨by dsimp only;omega,by dsimp only;omega⟩,by simp[FT.Le,Wk],HWk.refl _,fun h=>h⟩
    ·have hH0:=hP1 hP
     have hQ:qC EO a=false:=by
      cases hq:qC EO a
      ·rfl
      ·have:=hQ1 hq
       rw[hH0]at this
       cases this
     rw[hP,hQ]at hPQ
     subst hH0
     simp(disch:=omega)[hlt]
     refine(zx IDS hlen oR l[i].id).go fun n14 hn14=>?_
     rw[<-hPQ]
     simp(disch:=omega)[hla]
     refine(qo [a] EW .full o1 (by simp) (by omega) wa e2).go fun n15 hn15=>?_
     rw[qn,hP]
     simp(disch:=omega)[hla]
     refine(qo [a] EO .full o2 (by simp) (by omega) wa e4).go fun n16 hn16=>?_
     rw[qn,hQ]
     simp(disch:=omega)[hwi]
     exact⟨⟨i+1,n16⟩,by dsimp only;omega,⟨by dsimp only;omega,by dsimp only;omega⟩,by simp[FT.Le,Wk],HWk.refl _,fun h=>h⟩
   by_cases hf2:c.to<y
   ·obtain⟨b1,b2⟩:=hout (by omega)
    simp(disch:=omega)[hlc,hf1,hf2]
    refine(qbB (qH c l) oA y hIA b1).go fun n8b hn8b=>?_
    rw[b2]
    simp(disch:=omega)
    refine(qcQ (ql l y 0) .no .no hck).go fun n8c hn8c=>?_
    simp(disch:=omega)[hla]
    refine wI hI .no .no y a ha _ _ (hniO.cons _ rfl) fun oR n9 hn9=>?_
    by_cases hr:(zt l base y a).2=0
    case neg=>
     simp(disch:=omega)[hr]
     refine zJ _ _ (hniO.cons _ rfl) fun n10 hn10=>?_
     simp(disch:=omega)
     exact fin1 _ _ (fun i hi=>qd (by omega) _ _) (by omega)
    rw[hr]
    obtain⟨_,_,_,hr4,_,_⟩:=qac hr
    have hlen:=qaw l base y a
    obtain⟨IDS,hIDS⟩:∃IDS,(zt l base y a).1=IDS:=⟨_,rfl⟩
    rw[hIDS]at hlen ⊢
    simp(disch:=omega)[hla]
    refine wJ hMI hM .no a ha _ _ (hniO.cons _ rfl) fun n10 hn10=>?_
    rw[hr4]
    obtain⟨HB,hHB⟩:∃HB,z1 (ql l y 0) base a=HB:=⟨_,rfl⟩
    rw[hHB]
    simp(disch:=omega)
    refine qE (σ:=qaI) (fun q=>(.nd (.sl (l.map qA) .no) (.nd (.sl (base.map qh) .no) (.nd (.int y) (.nd .bot .nil (.nd (.sl (ui IDS) oR) .nil .nil)) (.nd (.ptr (n+1) 0) .nil (.nd (.int q.i) .nil .nil))) (.nd .bot (.nd .bot .nil (.nd (.bool HB) .nil .nil)) .nil)) .nil)) (fun q=>⟨(n4,.cells [.int LO,.int HI])::OB,q.n⟩) (fun q=>l.length - q.i)
     (fun q=>n10<=q.n/\q.i<=l.length) ⟨0,n10⟩ ⟨Nat.le_refl _,Nat.zero_le _⟩ (by simp[FT.Le,Wk]) ⟨HWk.refl _,fun h=>h⟩ ?_
    rintro⟨i,m⟩ ⟨hm,hi⟩ hok
    dsimp only at hm hi hok
    by_cases hlt:i<l.length
    case neg=>
     simp(disch:=omega)[hlt]
     refine zJ _ _ (hniO.cons _ rfl) fun n11 hn11=>?_
     simp(disch:=omega)
     exact fin1 _ _ (fun i hi=>qd (by omega) _ _) (by omega)
    obtain⟨hE,hPQ,hP1,hQ1⟩:=qaD hr (up hlt)
    rw[hIDS]at hPQ
    rw[hHB]at hP1 hQ1
    simp(disch:=omega)[hlt]
    refine qaa hI .no .no y l[i].id _ _ (hniO.cons _ rfl) fun o1 o2 n11 hn11=>?_
    obtain⟨⟨e1,e2⟩,e3,e4⟩:=qaE hI y l[i].id
    have v1:(qM l base y l[i].id).1=zM l base y l[i].id:=rfl
    have v2:(qM l base y l[i].id).2.1=zN l base y l[i].id:=rfl
    have v3:(qM l base y l[i].id).2.2=0:=hE
    rw[v1]at e1 e2
    rw[v2]at e3 e4
    rw[v1,v2,v3]
    obtain⟨EW,hEW⟩:∃EW,zM l base y l[i].id=EW:=⟨_,rfl⟩
    obtain⟨EO,hEO⟩:∃EO,zN l base y l[i].id=EO:=⟨_,rfl⟩
    rw[hEW]at e1 e2 hPQ hP1 ⊢
    rw[hEO]at e3 e4 hPQ hQ1 ⊢
    have wa:∀x∈[a],x.ok:=fun x hx=>by rw[List.mem_singleton]at hx;rw[hx];exact ha
    have hwi:IntKind.wrap .i64 ((i:Int)+1)=((i+1:Nat):Int):=qw (by omega)
    simp(disch:=omega)[hla]
    refine(qo [a] EW .full o1 (by simp) (by omega) wa e2).go fun n12 hn12=>?_
    rw[qn]
    cases hP:qC EW a
    ·cases hQ:qC EO a
     ·rw[hP,hQ]at hPQ
      simp(disch:=omega)[hla]
      refine(qo [a] EO .full o2 (by simp) (by omega) wa e4).go fun n13 hn13=>?_
      rw[qn,hQ]
      simp(disch:=omega)[hlt]
      refine(zx IDS hlen oR l[i].id).go fun n14 hn14=>?_
      rw[<-hPQ]
      simp(disch:=omega)[hla]
      refine(qo [a] EW .full o1 (by simp) (by omega) wa e2).go fun n15 hn15=>?_
      rw[qn,hP]
      simp(disch:=omega)[hla]
      refine(qo [a] EO .full o2 (by simp) (by omega) wa e4).go fun n16 hn16=>?_
      rw[qn,hQ]
      simp(disch:=omega)[hwi]
      exact⟨⟨i+1,n16⟩,by dsimp only;omega,⟨by dsimp only;omega,by dsimp only;omega⟩,by simp[FT.Le,Wk],HWk.refl _,fun h=>h⟩
     ·rw[hP,hQ]at hPQ
      have hH0:=hQ1 hQ
      subst hH0
      simp(disch:=omega)[hla]
      refine(qo [a] EO .full o2 (by simp) (by omega) wa e4).go fun n13 hn13=>?_
      rw[qn,hQ]
      simp(disch:=omega)[hlt]
      refine(zx IDS hlen oR l[i].id).go fun n14 hn14=>?_
      rw[<-hPQ]
      simp(disch:=omega)[hla]
      refine(qo [a] EW .full o1 (by simp) (by omega) wa e2).go fun n15 hn15=>?_
      rw[qn,hP]
      simp(disch:=omega)[hla]
      refine(qo [a] EO .full o2 (by simp) (by omega) wa e4).go fun n16 hn16=>?_
      rw[qn,hQ]
      simp(disch:=omega)[hwi]
      exact⟨⟨i+1,n16⟩,by dsimp only;omega,⟨by dsimp only;omega,by dsimp only;omega⟩,by simp[FT.Le,Wk],HWk.refl _,fun h=>h⟩
    ·have hH0:=hP1 hP
     have hQ:qC EO a=false:=by
      cases hq:qC EO a
      ·rfl
      ·have:=hQ1 hq
       rw[hH0]at this
       cases this
     rw[hP,hQ]at hPQ
     subst hH0
     simp(disch:=omega)[hlt]
     refine(zx IDS hlen oR l[i].id).go fun n14 hn14=>?_
     rw[<-hPQ]
     simp(disch:=omega)[hla]
     refine(qo [a] EW .full o1 (by simp) (by omega) wa e2).go fun n15 hn15=>?_
     rw[qn,hP]
     simp(disch:=omega)[hla]
     refine(qo [a] EO .full o2 (by simp) (by omega) wa e4).go fun n16 hn16=>?_
     rw[qn,hQ]
     simp(disch:=omega)[hwi]
     exact⟨⟨i+1,n16⟩,by dsimp only;omega,⟨by dsimp only;omega,by dsimp only;omega⟩,by simp[FT.Le,Wk],HWk.refl _,fun h=>h⟩
   ·simp(disch:=omega)[hlc,hf1,hf2,hla]
    refine wI hI .no .no y a ha _ _ (hniO.cons _ rfl) fun oR n9 hn9=>?_
    by_cases hr:(zt l base y a).2=0
    case neg=>
     simp(disch:=omega)[hr]
     refine zJ _ _ (hniO.cons _ rfl) fun n10 hn10=>?_
     simp(disch:=omega)
     exact fin1 _ _ (fun i hi=>qd (by omega) _ _) (by omega)
    rw[hr]
    obtain⟨_,_,_,hr4,_,_⟩:=qac hr
    have hlen:=qaw l base y a
    obtain⟨IDS,hIDS⟩:∃IDS,(zt l base y a).1=IDS:=⟨_,rfl⟩
    rw[hIDS]at hlen ⊢
    simp(disch:=omega)[hla]
    refine wJ hMI hM .no a ha _ _ (hniO.cons _ rfl) fun n10 hn10=>?_
    rw[hr4]
    obtain⟨HB,hHB⟩:∃HB,z1 (ql l y 0) base a=HB:=⟨_,rfl⟩
    rw[hHB]
    simp(disch:=omega)
    refine qE (σ:=qaI) (fun q=>(.nd (.sl (l.map qA) .no) (.nd (.sl (base.map qh) .no) (.nd (.int y) (.nd .bot .nil (.nd (.sl (ui IDS) oR) .nil .nil)) (.nd (.ptr (n+1) 0) .nil (.nd (.int q.i) .nil .nil))) (.nd .bot (.nd .bot .nil (.nd (.bool HB) .nil .nil)) .nil)) .nil)) (fun q=>⟨(n4,.cells [.int LO,.int HI])::OB,q.n⟩) (fun q=>l.length - q.i)
     (fun q=>n10<=q.n/\q.i<=l.length) ⟨0,n10⟩ ⟨Nat.le_refl _,Nat.zero_le _⟩ (by simp[FT.Le,Wk]) ⟨HWk.refl _,fun h=>h⟩ ?_
    rintro⟨i,m⟩ ⟨hm,hi⟩ hok
    dsimp only at hm hi hok
    by_cases hlt:i<l.length
    case neg=>
     simp(disch:=omega)[hlt]
     refine zJ _ _ (hniO.cons _ rfl) fun n11 hn11=>?_
     simp(disch:=omega)
     exact fin1 _ _ (fun i hi=>qd (by omega) _ _) (by omega)
    obtain⟨hE,hPQ,hP1,hQ1⟩:=qaD hr (up hlt)
    rw[hIDS]at hPQ
    rw[hHB]at hP1 hQ1
    simp(disch:=omega)[hlt]
    refine qaa hI .no .no y l[i].id _ _ (hniO.cons _ rfl) fun o1 o2 n11 hn11=>?_
    obtain⟨⟨e1,e2⟩,e3,e4⟩:=qaE hI y l[i].id
    have v1:(qM l base y l[i].id).1=zM l base y l[i].id:=rfl
    have v2:(qM l base y l[i].id).2.1=zN l base y l[i].id:=rfl
    have v3:(qM l base y l[i].id).2.2=0:=hE
    rw[v1]at e1 e2
    rw[v2]at e3 e4
    rw[v1,v2,v3]
    obtain⟨EW,hEW⟩:∃EW,zM l base y l[i].id=EW:=⟨_,rfl⟩
    obtain⟨EO,hEO⟩:∃EO,zN l base y l[i].id=EO:=⟨_,rfl⟩
    rw[hEW]at e1 e2 hPQ hP1 ⊢
    rw[hEO]at e3 e4 hPQ hQ1 ⊢
    have wa:∀x∈[a],x.ok:=fun x hx=>by rw[List.mem_singleton]at hx;rw[hx];exact ha
    have hwi:IntKind.wrap .i64 ((i:Int)+1)=((i+1:Nat):Int):=qw (by omega)
    simp(disch:=omega)[hla]
    refine(qo [a] EW .full o1 (by simp) (by omega) wa e2).go fun n12 hn12=>?_
    rw[qn]
    cases hP:qC EW a
    ·cases hQ:qC EO a
     ·rw[hP,hQ]at hPQ
      simp(disch:=omega)[hla]
      refine(qo [a] EO .full o2 (by simp) (by omega) wa e4).go fun n13 hn13=>?_
      rw[qn,hQ]
      simp(disch:=omega)[hlt]
      refine(zx IDS hlen oR l[i].id).go fun n14 hn14=>?_
      rw[<-hPQ]
      simp(disch:=omega)[hla]
      refine(qo [a] EW .full o1 (by simp) (by omega) wa e2).go fun n15 hn15=>?_
      rw[qn,hP]
      simp(disch:=omega)[hla]
      refine(qo [a] EO .full o2 (by simp) (by omega) wa e4).go fun n16 hn16=>?_
      rw[qn,hQ]
      simp(disch:=omega)[hwi]
      exact⟨⟨i+1,n16⟩,by dsimp only;omega,⟨by dsimp only;omega,by dsimp only;omega⟩,by simp[FT.Le,Wk],HWk.refl _,fun h=>h⟩
     ·rw[hP,hQ]at hPQ
      have hH0:=hQ1 hQ
      subst hH0
      simp(disch:=omega)[hla]
      refine(qo [a] EO .full o2 (by simp) (by omega) wa e4).go fun n13 hn13=>?_
      rw[qn,hQ]
      simp(disch:=omega)[hlt]
      refine(zx IDS hlen oR l[i].id).go fun n14 hn14=>?_
      rw[<-hPQ]
      simp(disch:=omega)[hla]
      refine(qo [a] EW .full o1 (by simp) (by omega) wa e2).go fun n15 hn15=>?_
      rw[qn,hP]
      simp(disch:=omega)[hla]
      refine(qo [a] EO .full o2 (by simp) (by omega) wa e4).go fun n16 hn16=>?_
      rw[qn,hQ]
      simp(disch:=omega)[hwi]
      exact⟨⟨i+1,n16⟩,by dsimp only;omega,⟨by dsimp only;omega,by dsimp only;omega⟩,by simp[FT.Le,Wk],HWk.refl _,fun h=>h⟩
    ·have hH0:=hP1 hP
     have hQ:qC EO a=false:=by
      cases hq:qC EO a
      ·rfl
      ·have:=hQ1 hq
       rw[hH0]at this
       cases this
     rw[hP,hQ]at hPQ
     subst hH0
     simp(disch:=omega)[hlt]
     refine(zx IDS hlen oR l[i].id).go fun n14 hn14=>?_
     rw[<-hPQ]
     simp(disch:=omega)[hla]
     refine(qo [a] EW .full o1 (by simp) (by omega) wa e2).go fun n15 hn15=>?_
     rw[qn,hP]
     simp(disch:=omega)[hla]
     refine(qo [a] EO .full o2 (by simp) (by omega) wa e4).go fun n16 hn16=>?_
     rw[qn,hQ]
     simp(disch:=omega)[hwi]
     exact⟨⟨i+1,n16⟩,by dsimp only;omega,⟨by dsimp only;omega,by dsimp only;omega⟩,by simp[FT.Le,Wk],HWk.refl _,fun h=>h⟩
 rw[g4 z ⟨q3,q4⟩]
 simp(disch:=omega)[q1,q2,q3,q4]
 refine(qcQ (ql l y 0) .no .no hck).go fun n7 hn7=>?_
 simp(disch:=omega)[hlc]
 refine qhw l .no c hI.toCustIn hcs (by omega) _ _ (fun hz n8 hn8=>?_) (fun hz oA n8 hn8=>?_)
 ·simp(disch:=omega)[hz,hla]
  refine wI hI .no .no y a ha _ _ (hniO.cons _ rfl) fun oR n9 hn9=>?_
  by_cases hr:(zt l base y a).2=0
  case neg=>
   simp(disch:=omega)[hr]
   refine zJ _ _ (hniO.cons _ rfl) fun n10 hn10=>?_
   simp(disch:=omega)
   exact fin1 _ _ (fun i hi=>qd (by omega) _ _) (by omega)
  rw[hr]
  obtain⟨_,_,_,hr4,_,_⟩:=qac hr
  have hlen:=qaw l base y a
  obtain⟨IDS,hIDS⟩:∃IDS,(zt l base y a).1=IDS:=⟨_,rfl⟩
  rw[hIDS]at hlen ⊢
  simp(disch:=omega)[hla]
  refine wJ hMI hM .no a ha _ _ (hniO.cons _ rfl) fun n10 hn10=>?_
  rw[hr4]
  obtain⟨HB,hHB⟩:∃HB,z1 (ql l y 0) base a=HB:=⟨_,rfl⟩
  rw[hHB]
  simp(disch:=omega)
  refine qE (σ:=qaI) (fun q=>(.nd (.sl (l.map qA) .no) (.nd (.sl (base.map qh) .no) (.nd (.int y) (.nd .bot .nil (.nd (.sl (ui IDS) oR) .nil .nil)) (.nd (.ptr (n+1) 0) .nil (.nd (.int q.i) .nil .nil))) (.nd .bot (.nd .bot .nil (.nd (.bool HB) .nil .nil)) .nil)) .nil)) (fun q=>⟨(n4,.cells [.int LO,.int HI])::OB,q.n⟩) (fun q=>l.length - q.i)
   (fun q=>n10<=q.n/\q.i<=l.length) ⟨0,n10⟩ ⟨Nat.le_refl _,Nat.zero_le _⟩ (by simp[FT.Le,Wk]) ⟨HWk.refl _,fun h=>h⟩ ?_
  rintro⟨i,m⟩ ⟨hm,hi⟩ hok
  dsimp only at hm hi hok
  by_cases hlt:i<l.length
  case neg=>
   simp(disch:=omega)[hlt]
   refine zJ _ _ (hniO.cons _ rfl) fun n11 hn11=>?_
   simp(disch:=omega)
   exact fin1 _ _ (fun i hi=>qd (by omega) _ _) (by omega)
  obtain⟨hE,hPQ,hP1,hQ1⟩:=qaD hr (up hlt)
  rw[hIDS]at hPQ
  rw[hHB]at hP1 hQ1
  simp(disch:=omega)[hlt]
  refine qaa hI .no .no y l[i].id _ _ (hniO.cons _ rfl) fun o1 o2 n11 hn11=>?_
  obtain⟨⟨e1,e2⟩,e3,e4⟩:=qaE hI y l[i].id
  have v1:(qM l base y l[i].id).1=zM l base y l[i].id:=rfl
  have v2:(qM l base y l[i].id).2.1=zN l base y l[i].id:=rfl
  have v3:(qM l base y l[i].id).2.2=0:=hE
  rw[v1]at e1 e2
  rw[v2]at e3 e4
  rw[v1,v2,v3]
  obtain⟨EW,hEW⟩:∃EW,zM l base y l[i].id=EW:=⟨_,rfl⟩
  obtain⟨EO,hEO⟩:∃EO,zN l base y l[i].id=EO:=⟨_,rfl⟩
  rw[hEW]at e1 e2 hPQ hP1 ⊢
  rw[hEO]at e3 e4 hPQ hQ1 ⊢
  have wa:∀x∈[a],x.ok:=fun x hx=>by rw[List.mem_singleton]at hx;rw[hx];exact ha
  have hwi:IntKind.wrap .i64 ((i:Int)+1)=((i+1:Nat):Int):=qw (by omega)
  simp(disch:=omega)[hla]
  refine(qo [a] EW .full o1 (by simp) (by omega) wa e2).go fun n12 hn12=>?_
  rw[qn]
  cases hP:qC EW a
  ·cases hQ:qC EO a
   ·rw[hP,hQ]at hPQ
    simp(disch:=omega)[hla]
    refine(qo [a] EO .full o2 (by simp) (by omega) wa e4).go fun n13 hn13=>?_
    rw[qn,hQ]
    simp(disch:=omega)[hlt]
    refine(zx IDS hlen oR l[i].id).go fun n14 hn14=>?_
    rw[<-hPQ]
    simp(disch:=omega)[hla]
    refine(qo [a] EW .full o1 (by simp) (by omega) wa e2).go fun n15 hn15=>?_
    rw[qn,hP]
    simp(disch:=omega)[hla]
    refine(qo [a] EO .full o2 (by simp) (by omega) wa e4).go fun n16 hn16=>?_
    rw[qn,hQ]
    simp(disch:=omega)[hwi]
    exact⟨⟨i+1,n16⟩,by dsimp only;omega,⟨by dsimp only;omega,by dsimp only;omega⟩,by simp[FT.Le,Wk],HWk.refl _,fun h=>h⟩
   ·rw[hP,hQ]at hPQ
    have hH0:=hQ1 hQ
    subst hH0
    simp(disch:=omega)[hla]
    refine(qo [a] EO .full o2 (by simp) (by omega) wa e4).go fun n13 hn13=>?_
    rw[qn,hQ]
    simp(disch:=omega)[hlt]
    refine(zx IDS hlen oR l[i].id).go fun n14 hn14=>?_
    rw[<-hPQ]
    simp(disch:=omega)[hla]
    refine(qo [a] EW .full o1 (by simp) (by omega) wa e2).go fun n15 hn15=>?_
    rw[qn,hP]
    simp(disch:=omega)[hla]
    refine(qo [a] EO .full o2 (by simp) (by omega) wa e4).go fun n16 hn16=>?_
    rw[qn,hQ]
    simp(disch:=omega)[hwi]
    exact⟨⟨i+1,n16⟩,by dsimp only;omega,⟨by dsimp only;omega,by dsimp only;omega⟩,by simp[FT.Le,Wk],HWk.refl _,fun h=>h⟩
  ·have hH0:=hP1 hP
   have hQ:qC EO a=false:=by
    cases hq:qC EO a
    ·rfl
    ·have:=hQ1 hq
     rw[hH0]at this
     cases this
   rw[hP,hQ]at hPQ
   subst hH0
   simp(disch:=omega)[hlt]
   refine(zx IDS hlen oR l[i].id).go fun n14 hn14=>?_
   rw[<-hPQ]
   simp(disch:=omega)[hla]
   refine(qo [a] EW .full o1 (by simp) (by omega) wa e2).go fun n15 hn15=>?_
   rw[qn,hP]
   simp(disch:=omega)[hla]
   refine(qo [a] EO .full o2 (by simp) (by omega) wa e4).go fun n16 hn16=>?_
   rw[qn,hQ]
   simp(disch:=omega)[hwi]
   exact⟨⟨i+1,n16⟩,by dsimp only;omega,⟨by dsimp only;omega,by dsimp only;omega⟩,by simp[FT.Le,Wk],HWk.refl _,fun h=>h⟩
 ·obtain⟨a1,a2⟩:=qjL hz
  have hac:qby l c=qH c l:=by unfold qby;rw[if_pos hz]
  have hIA:CustIn (qH c l):=⟨by have:=(qbT a2).2.2;omega,fun _ x hx=>by
   rcases qgr hx with rfl|hx
   ·exact hcs
   ·exact hI.sm h30 x hx⟩
  have hout:¬(c.fr<=y/\y<=c.to)->zo (qH c l) y=0/\ql (qH c l) y 0=ql l y 0:=fun h=>by
   rw[<-hac]
   exact qjK hz (qcD h5).2 h
  by_cases hf1:y<c.fr
  ·obtain⟨b1,b2⟩:=hout (by omega)
   simp(disch:=omega)[hlc,hf1]
   refine(qbB (qH c l) oA y hIA b1).go fun n8b hn8b=>?_
   rw[b2]
   simp(disch:=omega)
   refine(qcQ (ql l y 0) .no .no hck).go fun n8c hn8c=>?_
   simp(disch:=omega)[hla]
   refine wI hI .no .no y a ha _ _ (hniO.cons _ rfl) fun oR n9 hn9=>?_
   by_cases hr:(zt l base y a).2=0
   case neg=>
    simp(disch:=omega)[hr]
    refine zJ _ _ (hniO.cons _ rfl) fun n10 hn10=>?_
    simp(disch:=omega)
    exact fin1 _ _ (fun i hi=>qd (by omega) _ _) (by omega)
   rw[hr]
   obtain⟨_,_,_,hr4,_,_⟩:=qac hr
   have hlen:=qaw l base y a
   obtain⟨IDS,hIDS⟩:∃IDS,(zt l base y a).1=IDS:=⟨_,rfl⟩
   rw[hIDS]at hlen ⊢
   simp(disch:=omega)[hla]
   refine wJ hMI hM .no a ha _ _ (hniO.cons _ rfl) fun n10 hn10=>?_
   rw[hr4]
   obtain⟨HB,hHB⟩:∃HB,z1 (ql l y 0) base a=HB:=⟨_,rfl⟩
   rw[hHB]
   simp(disch:=omega)
   refine qE (σ:=qaI) (fun q=>(.nd (.sl (l.map qA) .no) (.nd (.sl (base.map qh) .no) (.nd (.int y) (.nd .bot .nil (.nd (.sl (ui IDS) oR) .nil .nil)) (.nd (.ptr (n+1) 0) .nil (.nd (.int q.i) .nil .nil))) (.nd .bot (.nd .bot .nil (.nd (.bool HB) .nil .nil)) .nil)) .nil)) (fun q=>⟨(n4,.cells [.int LO,.int HI])::OB,q.n⟩) (fun q=>l.length - q.i)
    (fun q=>n10<=q.n/\q.i<=l.length) ⟨0,n10⟩ ⟨Nat.le_refl _,Nat.zero_le _⟩ (by simp[FT.Le,Wk]) ⟨HWk.refl _,fun h=>h⟩ ?_
   rintro⟨i,m⟩ ⟨hm,hi⟩ hok
   dsimp only at hm hi hok
   by_cases hlt:i<l.length
   case neg=>
    simp(disch:=omega)[hlt]
    refine zJ _ _ (hniO.cons _ rfl) fun n11 hn11=>?_
    simp(disch:=omega)
    exact fin1 _ _ (fun i hi=>qd (by omega) _ _) (by omega)
   obtain⟨hE,hPQ,hP1,hQ1⟩:=qaD hr (up hlt)
   rw[hIDS]at hPQ
   rw[hHB]at hP1 hQ1
   simp(disch:=omega)[hlt]
   refine qaa hI .no .no y l[i].id _ _ (hniO.cons _ rfl) fun o1 o2 n11 hn11=>?_
   obtain⟨⟨e1,e2⟩,e3,e4⟩:=qaE hI y l[i].id
   have v1:(qM l base y l[i].id).1=zM l base y l[i].id:=rfl
   have v2:(qM l base y l[i].id).2.1=zN l base y l[i].id:=rfl
   have v3:(qM l base y l[i].id).2.2=0:=hE
   rw[v1]at e1 e2
   rw[v2]at e3 e4
   rw[v1,v2,v3]
   obtain⟨EW,hEW⟩:∃EW,zM l base y l[i].id=EW:=⟨_,rfl⟩
   obtain⟨EO,hEO⟩:∃EO,zN l base y l[i].id=EO:=⟨_,rfl⟩
   rw[hEW]at e1 e2 hPQ hP1 ⊢
   rw[hEO]at e3 e4 hPQ hQ1 ⊢
   have wa:∀x∈[a],x.ok:=fun x hx=>by rw[List.mem_singleton]at hx;rw[hx];exact ha
   have hwi:IntKind.wrap .i64 ((i:Int)+1)=((i+1:Nat):Int):=qw (by omega)
   simp(disch:=omega)[hla]
   refine(qo [a] EW .full o1 (by simp) (by omega) wa e2).go fun n12 hn12=>?_
   rw[qn]
   cases hP:qC EW a
   ·cases hQ:qC EO a
    ·rw[hP,hQ]at hPQ
     simp(disch:=omega)[hla]
     refine(qo [a] EO .full o2 (by simp) (by omega) wa e4).go fun n13 hn13=>?_
     rw[qn,hQ]
     simp(disch:=omega)[hlt]
     refine(zx IDS hlen oR l[i].id).go fun n14 hn14=>?_
     rw[<-hPQ]
     simp(disch:=omega)[hla]
     refine(qo [a] EW .full o1 (by simp) (by omega) wa e2).go fun n15 hn15=>?_
     rw[qn,hP]
     simp(disch:=omega)[hla]
     refine(qo [a] EO .full o2 (by simp) (by omega) wa e4).go fun n16 hn16=>?_
     rw[qn,hQ]
     simp(disch:=omega)[hwi]
     exact⟨⟨i+1,n16⟩,by dsimp only;omega,⟨by dsimp only;omega,by dsimp only;omega⟩,by simp[FT.Le,Wk],HWk.refl _,fun h=>h⟩
    ·rw[hP,hQ]at hPQ
     have hH0:=hQ1 hQ
     subst hH0
     simp(disch:=omega)[hla]
     refine(qo [a] EO .full o2 (by simp) (by omega) wa e4).go fun n13 hn13=>?_
     rw[qn,hQ]
     simp(disch:=omega)[hlt]
     refine(zx IDS hlen oR l[i].id).go fun n14 hn14=>?_
     rw[<-hPQ]
     simp(disch:=omega)[hla]
     refine(qo [a] EW .full o1 (by simp) (by omega) wa e2).go fun n15 hn15=>?_
     rw[qn,hP]
     simp(disch:=omega)[hla]
     refine(qo [a] EO .full o2 (by simp) (by omega) wa e4).go fun n16 hn16=>?_
     rw[qn,hQ]
     simp(disch:=omega)[hwi]
     exact⟨⟨i+1,n16⟩,by dsimp only;omega,⟨by dsimp only;omega,by dsimp only;omega⟩,by simp[FT.Le,Wk],HWk.refl _,fun h=>h⟩
   ·have hH0:=hP1 hP
    have hQ:qC EO a=false:=by
     cases hq:qC EO a
     ·rfl
     ·have:=hQ1 hq
      rw[hH0]at this
      cases this
    rw[hP,hQ]at hPQ
    subst hH0
    simp(disch:=omega)[hlt]
    refine(zx IDS hlen oR l[i].id).go fun n14 hn14=>?_
    rw[<-hPQ]
    simp(disch:=omega)[hla]
    refine(qo [a] EW .full o1 (by simp) (by omega) wa e2).go fun n15 hn15=>?_
    rw[qn,hP]
    simp(disch:=omega)[hla]
    refine(qo [a] EO .full o2 (by simp) (by omega) wa e4).go fun n16 hn16=>?_
    rw[qn,hQ]
    simp(disch:=omega)[hwi]
    exact⟨⟨i+1,n16⟩,by dsimp only;omega,⟨by dsimp only;omega,by dsimp only;omega⟩,by simp[FT.Le,Wk],HWk.refl _,fun h=>h⟩
  by_cases hf2:c.to<y
  ·obtain⟨b1,b2⟩:=hout (by omega)
   simp(disch:=omega)[hlc,hf1,hf2]
   refine(qbB (qH c l) oA y hIA b1).go fun n8b hn8b=>?_
   rw[b2]
   simp(disch:=omega)
   refine(qcQ (ql l y 0) .no .no hck).go fun n8c hn8c=>?_
   simp(disch:=omega)[hla]
   refine wI hI .no .no y a ha _ _ (hniO.cons _ rfl) fun oR n9 hn9=>?_
   by_cases hr:(zt l base y a).2=0
   case neg=>
    simp(disch:=omega)[hr]
    refine zJ _ _ (hniO.cons _ rfl) fun n10 hn10=>?_
    simp(disch:=omega)
    exact fin1 _ _ (fun i hi=>qd (by omega) _ _) (by omega)
   rw[hr]
   obtain⟨_,_,_,hr4,_,_⟩:=qac hr
   have hlen:=qaw l base y a
   obtain⟨IDS,hIDS⟩:∃IDS,(zt l base y a).1=IDS:=⟨_,rfl⟩
   rw[hIDS]at hlen ⊢
   simp(disch:=omega)[hla]
   refine wJ hMI hM .no a ha _ _ (hniO.cons _ rfl) fun n10 hn10=>?_
   rw[hr4]
   obtain⟨HB,hHB⟩:∃HB,z1 (ql l y 0) base a=HB:=⟨_,rfl⟩
   rw[hHB]
   simp(disch:=omega)
   refine qE (σ:=qaI) (fun q=>(.nd (.sl (l.map qA) .no) (.nd (.sl (base.map qh) .no) (.nd (.int y) (.nd .bot .nil (.nd (.sl (ui IDS) oR) .nil .nil)) (.nd (.ptr (n+1) 0) .nil (.nd (.int q.i) .nil .nil))) (.nd .bot (.nd .bot .nil (.nd (.bool HB) .nil .nil)) .nil)) .nil)) (fun q=>⟨(n4,.cells [.int LO,.int HI])::OB,q.n⟩) (fun q=>l.length - q.i)
    (fun q=>n10<=q.n/\q.i<=l.length) ⟨0,n10⟩ ⟨Nat.le_refl _,Nat.zero_le _⟩ (by simp[FT.Le,Wk]) ⟨HWk.refl _,fun h=>h⟩ ?_
   rintro⟨i,m⟩ ⟨hm,hi⟩ hok
   dsimp only at hm hi hok
   by_cases hlt:i<l.length
   case neg=>
    simp(disch:=omega)[hlt]
    refine zJ _ _ (hniO.cons _ rfl) fun n11 hn11=>?_
    simp(disch:=omega)
    exact fin1 _ _ (fun i hi=>qd (by omega) _ _) (by omega)
   obtain⟨hE,hPQ,hP1,hQ1⟩:=qaD hr (up hlt)
   rw[hIDS]at hPQ
   rw[hHB]at hP1 hQ1
   simp(disch:=omega)[hlt]
   refine qaa hI .no .no y l[i].id _ _ (hniO.cons _ rfl) fun o1 o2 n11 hn11=>?_
   obtain⟨⟨e1,e2⟩,e3,e4⟩:=qaE hI y l[i].id
   have v1:(qM l base y l[i].id).1=zM l base y l[i].id:=rfl
   have v2:(qM l base y l[i].id).2.1=zN l base y l[i].id:=rfl
   have v3:(qM l base y l[i].id).2.2=0:=hE
   rw[v1]at e1 e2
   rw[v2]at e3 e4
   rw[v1,v2,v3]
   obtain⟨EW,hEW⟩:∃EW,zM l base y l[i].id=EW:=⟨_,rfl⟩
   obtain⟨EO,hEO⟩:∃EO,zN l base y l[i].id=EO:=⟨_,rfl⟩
   rw[hEW]at e1 e2 hPQ hP1 ⊢
   rw[hEO]at e3 e4 hPQ hQ1 ⊢
   have wa:∀x∈[a],x.ok:=fun x hx=>by rw[List.mem_singleton]at hx;rw[hx];exact ha
   have hwi:IntKind.wrap .i64 ((i:Int)+1)=((i+1:Nat):Int):=qw (by omega)
   simp(disch:=omega)[hla]
   refine(qo [a] EW .full o1 (by simp) (by omega) wa e2).go fun n12 hn12=>?_
   rw[qn]
   cases hP:qC EW a
   ·cases hQ:qC EO a
    ·rw[hP,hQ]at hPQ
     simp(disch:=omega)[hla]
     refine(qo [a] EO .full o2 (by simp) (by omega) wa e4).go fun n13 hn13=>?_
     rw[qn,hQ]
     simp(disch:=omega)[hlt]
     refine(zx IDS hlen oR l[i].id).go fun n14 hn14=>?_
     rw[<-hPQ]
     simp(disch:=omega)[hla]
     refine(qo [a] EW .full o1 (by simp) (by omega) wa e2).go fun n15 hn15=>?_
     rw[qn,hP]
     simp(disch:=omega)[hla]
     refine(qo [a] EO .full o2 (by simp) (by omega) wa e4).go fun n16 hn16=>?_
     rw[qn,hQ]
     simp(disch:=omega)[hwi]
     exact⟨⟨i+1,n16⟩,by dsimp only;omega,⟨by dsimp only;omega,by dsimp only;omega⟩,by simp[FT.Le,Wk],HWk.refl _,fun h=>h⟩
    ·rw[hP,hQ]at hPQ
     have hH0:=hQ1 hQ
     subst hH0
     simp(disch:=omega)[hla]
     refine(qo [a] EO .full o2 (by simp) (by omega) wa e4).go fun n13 hn13=>?_
     rw[qn,hQ]
     simp(disch:=omega)[hlt]
     refine(zx IDS hlen oR l[i].id).go fun n14 hn14=>?_
     rw[<-hPQ]
     simp(disch:=omega)[hla]
     refine(qo [a] EW .full o1 (by simp) (by omega) wa e2).go fun n15 hn15=>?_
     rw[qn,hP]
     simp(disch:=omega)[hla]
     refine(qo [a] EO .full o2 (by simp) (by omega) wa e4).go fun n16 hn16=>?_
     rw[qn,hQ]
     simp(disch:=omega)[hwi]
     exact⟨⟨i+1,n16⟩,by dsimp only;omega,⟨by dsimp only;omega,by dsimp only;omega⟩,by simp[FT.Le,Wk],HWk.refl _,fun h=>h⟩
   ·have hH0:=hP1 hP
    have hQ:qC EO a=false:=by
     cases hq:qC EO a
     ·rfl
     ·have:=hQ1 hq
      rw[hH0]at this
      cases this
    rw[hP,hQ]at hPQ
    subst hH0
    simp(disch:=omega)[hlt]
    refine(zx IDS hlen oR l[i].id).go fun n14 hn14=>?_
    rw[<-hPQ]
    simp(disch:=omega)[hla]
    refine(qo [a] EW .full o1 (by simp) (by omega) wa e2).go fun n15 hn15=>?_
    rw[qn,hP]
    simp(disch:=omega)[hla]
    refine(qo [a] EO .full o2 (by simp) (by omega) wa e4).go fun n16 hn16=>?_
    rw[qn,hQ]
    simp(disch:=omega)[hwi]
    exact⟨⟨i+1,n16⟩,by dsimp only;omega,⟨by dsimp only;omega,by dsimp only;omega⟩,by simp[FT.Le,Wk],HWk.refl _,fun h=>h⟩
  ·simp(disch:=omega)[hlc,hf1,hf2,hla]
   refine wI hI .no .no y a ha _ _ (hniO.cons _ rfl) fun oR n9 hn9=>?_
   by_cases hr:(zt l base y a).2=0
   case neg=>
    simp(disch:=omega)[hr]
    refine zJ _ _ (hniO.cons _ rfl) fun n10 hn10=>?_
    simp(disch:=omega)
    exact fin1 _ _ (fun i hi=>qd (by omega) _ _) (by omega)
   rw[hr]
   obtain⟨_,_,_,hr4,_,_⟩:=qac hr
   have hlen:=qaw l base y a
   obtain⟨IDS,hIDS⟩:∃IDS,(zt l base y a).1=IDS:=⟨_,rfl⟩
   rw[hIDS]at hlen ⊢
   simp(disch:=omega)[hla]
   refine wJ hMI hM .no a ha _ _ (hniO.cons _ rfl) fun n10 hn10=>?_
   rw[hr4]
   obtain⟨HB,hHB⟩:∃HB,z1 (ql l y 0) base a=HB:=⟨_,rfl⟩
   rw[hHB]
   simp(disch:=omega)
   refine qE (σ:=qaI) (fun q=>(.nd (.sl (l.map qA) .no) (.nd (.sl (base.map qh) .no) (.nd (.int y) (.nd .bot .nil (.nd (.sl (ui IDS) oR) .nil .nil)) (.nd (.ptr (n+1) 0) .nil (.nd (.int q.i) .nil .nil))) (.nd .bot (.nd .bot .nil (.nd (.bool HB) .nil .nil)) .nil)) .nil)) (fun q=>⟨(n4,.cells [.int LO,.int HI])::OB,q.n⟩) (fun q=>l.length - q.i)
    (fun q=>n10<=q.n/\q.i<=l.length) ⟨0,n10⟩ ⟨Nat.le_refl _,Nat.zero_le _⟩ (by simp[FT.Le,Wk]) ⟨HWk.refl _,fun h=>h⟩ ?_
   rintro⟨i,m⟩ ⟨hm,hi⟩ hok
   dsimp only at hm hi hok
   by_cases hlt:i<l.length
   case neg=>
    simp(disch:=omega)[hlt]
    refine zJ _ _ (hniO.cons _ rfl) fun n11 hn11=>?_
    simp(disch:=omega)
    exact fin1 _ _ (fun i hi=>qd (by omega) _ _) (by omega)
   obtain⟨hE,hPQ,hP1,hQ1⟩:=qaD hr (up hlt)
   rw[hIDS]at hPQ
   rw[hHB]at hP1 hQ1
   simp(disch:=omega)[hlt]
   refine qaa hI .no .no y l[i].id _ _ (hniO.cons _ rfl) fun o1 o2 n11 hn11=>?_
   obtain⟨⟨e1,e2⟩,e3,e4⟩:=qaE hI y l[i].id
   have v1:(qM l base y l[i].id).1=zM l base y l[i].id:=rfl
   have v2:(qM l base y l[i].id).2.1=zN l base y l[i].id:=rfl
   have v3:(qM l base y l[i].id).2.2=0:=hE
   rw[v1]at e1 e2
   rw[v2]at e3 e4
   rw[v1,v2,v3]
   obtain⟨EW,hEW⟩:∃EW,zM l base y l[i].id=EW:=⟨_,rfl⟩
   obtain⟨EO,hEO⟩:∃EO,zN l base y l[i].id=EO:=⟨_,rfl⟩
   rw[hEW]at e1 e2 hPQ hP1 ⊢
   rw[hEO]at e3 e4 hPQ hQ1 ⊢
   have wa:∀x∈[a],x.ok:=fun x hx=>by rw[List.mem_singleton]at hx;rw[hx];exact ha
   have hwi:IntKind.wrap .i64 ((i:Int)+1)=((i+1:Nat):Int):=qw (by omega)
   simp(disch:=omega)[hla]
   refine(qo [a] EW .full o1 (by simp) (by omega) wa e2).go fun n12 hn12=>?_
   rw[qn]
   cases hP:qC EW a
   ·cases hQ:qC EO a
    ·rw[hP,hQ]at hPQ
     simp(disch:=omega)[hla]
     refine(qo [a] EO .full o2 (by simp) (by omega) wa e4).go fun n13 hn13=>?_
     rw[qn,hQ]
     simp(disch:=omega)[hlt]
     refine(zx IDS hlen oR l[i].id).go fun n14 hn14=>?_
     rw[<-hPQ]
     simp(disch:=omega)[hla]
     refine(qo [a] EW .full o1 (by simp) (by omega) wa e2).go fun n15 hn15=>?_
     rw[qn,hP]
     simp(disch:=omega)[hla]
     refine(qo [a] EO .full o2 (by simp) (by omega) wa e4).go fun n16 hn16=>?_
     rw[qn,hQ]
     simp(disch:=omega)[hwi]
     exact⟨⟨i+1,n16⟩,by dsimp only;omega,⟨by dsimp only;omega,by dsimp only;omega⟩,by simp[FT.Le,Wk],HWk.refl _,fun h=>h⟩
    ·rw[hP,hQ]at hPQ
     have hH0:=hQ1 hQ
     subst hH0
     simp(disch:=omega)[hla]
     refine(qo [a] EO .full o2 (by simp) (by omega) wa e4).go fun n13 hn13=>?_
     rw[qn,hQ]
     simp(disch:=omega)[hlt]
     refine(zx IDS hlen oR l[i].id).go fun n14 hn14=>?_
     rw[<-hPQ]
     simp(disch:=omega)[hla]
     refine(qo [a] EW .full o1 (by simp) (by omega) wa e2).go fun n15 hn15=>?_
     rw[qn,hP]
     simp(disch:=omega)[hla]
     refine(qo [a] EO .full o2 (by simp) (by omega) wa e4).go fun n16 hn16=>?_
     rw[qn,hQ]
     simp(disch:=omega)[hwi]
     exact⟨⟨i+1,n16⟩,by dsimp only;omega,⟨by dsimp only;omega,by dsimp only;omega⟩,by simp[FT.Le,Wk],HWk.refl _,fun h=>h⟩
   ·have hH0:=hP1 hP
    have hQ:qC EO a=false:=by
     cases hq:qC EO a
     ·rfl
     ·have:=hQ1 hq
      rw[hH0]at this
      cases this
    rw[hP,hQ]at hPQ
    subst hH0
    simp(disch:=omega)[hlt]
    refine(zx IDS hlen oR l[i].id).go fun n14 hn14=>?_
    rw[<-hPQ]
    simp(disch:=omega)[hla]
    refine(qo [a] EW .full o1 (by simp) (by omega) wa e2).go fun n15 hn15=>?_
    rw[qn,hP]
    simp(disch:=omega)[hla]
    refine(qo [a] EO .full o2 (by simp) (by omega) wa e4).go fun n16 hn16=>?_
    rw[qn,hQ]
    simp(disch:=omega)[hwi]
    exact⟨⟨i+1,n16⟩,by dsimp only;omega,⟨by dsimp only;omega,by dsimp only;omega⟩,by simp[FT.Le,Wk],HWk.refl _,fun h=>h⟩
end Go.Abs.Tz
namespace Go.Abs.Tz
set_option maxRecDepth 20000
open Go Go.Abs Go.Proofs Go.ChangeShapes Go.WideShapes Go.RowKit Go.Proofs.YtjbhehjoaalhiaaGreatDoor
section
variable{H:Type}{enc:TypeId×Value->H}{P:Program}{w:World}{base:Nat}{spare:Nat->Bool}{held:Bool}
theorem trodAll_six{t0 t1 t2 t3 t4 t5:TypeId}{args:Array Value}{ds:List (DataW H)}{ps:List MemPlace}(h:DataW.TrodAll enc P w base spare held [t0,t1,t2,t3,t4,t5] args.toList ds ps):
  ∃v0 v1 v2 v3 v4 v5 d0 d1 d2 d3 d4 d5 p0 p1 p2 p3 p4 p5,args=#[v0,v1,v2,v3,v4,v5]/\ds=[d0,d1,d2,d3,d4,d5]/\ps=p0++p1++p2++p3++p4++p5/\DataW.Trod enc P w base spare held t0 v0 d0 p0/\DataW.Trod enc P w base spare held t1 v1 d1 p1/\DataW.Trod enc P w base spare held t2 v2 d2 p2/\DataW.Trod enc P w base spare held t3 v3 d3 p3/\DataW.Trod enc P w base spare held t4 v4 d4 p4/\DataW.Trod enc P w base spare held t5 v5 d5 p5:=by
 obtain⟨v0,x0,d0,y0,p0,q0,hargs,rfl,rfl,k0,r0⟩:=trodAll_cons h
 obtain⟨v1,x1,d1,y1,p1,q1,rfl,rfl,rfl,k1,r1⟩:=trodAll_cons r0
 obtain⟨v2,x2,d2,y2,p2,q2,rfl,rfl,rfl,k2,r2⟩:=trodAll_cons r1
 obtain⟨v3,x3,d3,y3,p3,q3,rfl,rfl,rfl,k3,r3⟩:=trodAll_cons r2
 obtain⟨v4,x4,d4,y4,p4,q4,rfl,rfl,rfl,k4,r4⟩:=trodAll_cons r3
 obtain⟨v5,x5,d5,y5,p5,q5,rfl,rfl,rfl,k5,r5⟩:=trodAll_cons r4
 obtain⟨rfl,rfl,rfl⟩:=trodAll_nil r5
 exact⟨v0,v1,v2,v3,v4,v5,d0,d1,d2,d3,d4,d5,p0,p1,p2,p3,p4,p5,by cases args;simp_all,rfl,by simp,k0,k1,k2,k3,k4,k5⟩
end
theorem law_run13(l:List qf)(bs:List Atom)(c:qf)(y z:Int)(a:Atom)(hl:l.length<2^63)(hb:qfJ l)(hbl:bs.length<2^63)(hbc:Fits c)(W:World)(hW:laidMetH Tryz.prog Rows.customYearsAsSpecifiedRow.laid W)(us:Array Value)(h0:us.size=6)
  (h1:VR (gOf W) W (.sl (l.map qA) .no) (us.getD 0 undef)) (h2:VR (gOf W) W (.sl (bs.map qh) .no) (us.getD 1 undef)) (h3:VR (gOf W) W (qA c) (us.getD 2 undef)) (h4:us.getD 3 undef=.int .i64 y) (h5:us.getD 4 undef=.int .i64 z) (h6:VR (gOf W) W (qh a) (us.getD 5 undef)):
  Calls Tryz.prog 7 us W fun e W'=>e=.returned (.bool true)/\Below W.heap.size W W':=by
 have hO:cP E0 F0 7 [.sl (l.map qA) .no,.sl (bs.map qh) .no,qA c,.int y,.int z,qh a] ⟨[],1⟩ (fun v _=>v=.bool true) (fun _ _=>False):=
  qqV l bs c y z a hl hb hbl hbc.2 [] 1 (fun i m l k n=>by simp[look]) fun _ _=>rfl
 have hC:qV Tryz.prog E0 7 [.sl (l.map qA) .no,.sl (bs.map qh) .no,qA c,.int y,.int z,qh a] ⟨[],1⟩ _:=qbi qdf qbR (hO trivial)
 refine(hC.2 (gOf W) W us (quM W 1) (quN W hW) ⟨h0,fun i x hi=>?_⟩).mono fun e W' hp=>?_
 ·match i,hi with
  |0,hi=>simp at hi;subst hi;exact h1
  |1,hi=>simp at hi;subst hi;exact h2
  |2,hi=>simp at hi;subst hi;exact h3
  |3,hi=>simp at hi;subst hi;rw[h4];exact .sc _
  |4,hi=>simp at hi;subst hi;rw[h5];exact .sc _
  |5,hi=>simp at hi;subst hi;exact h6
  |i+6,hi=>simp at hi
 ·cases e with
  |outgrown=>exact hp.elim
  |panicked ch=>
   obtain⟨_,_,_,_,hT,_⟩:=hp
   rcases hT with⟨_,_,he,_⟩|⟨_,_,he,_,hf⟩
   ·cases he
   ·exact hf.elim
  |returned u=>
   obtain⟨v,H',G',hT,hV,_,hx⟩:=hp
   rcases hT with⟨v',H'',he,_,hv⟩|⟨_,_,he,_⟩
   ·cases he
    subst hv
    obtain rfl:=hV.sc_inv
    exact⟨rfl,hx.os,hx.tape,hx.output,hx.size,fun k hk=>hx.block k (by simp[gOf,hk])⟩
   ·cases he
end Go.Abs.Tz
