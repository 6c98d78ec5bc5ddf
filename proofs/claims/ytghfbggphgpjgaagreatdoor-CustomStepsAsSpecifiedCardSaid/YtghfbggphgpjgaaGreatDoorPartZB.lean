/- Part of the proof that the law CustomStepsAsSpecified returns true for every input. Conditions: none. -/
import Derived.Test.YtghfbggphgpjgaaGreatDoorPartZA
import Derived.Test.YtghfbggphgpjgaaGreatDoorPartX
import Derived.Test.YtghfbggphgpjgaaGreatDoorPartW
namespace Go.Abs.Tz
open Go Go.Abs Go.Proofs
set_option maxRecDepth 20000
set_option linter.unusedSimpArgs false
attribute [local simp ↓] yC yB jT jS yf uO zu zG jR uB vl vm yD yF yG yE jY j6 j9 jZ ga gc j7 j8 j0 jW jU jX jV vj vh vk vi yy yw yz yx yK yI yJ jj z8 ge zw zU yi vn vo yN yP yO yL yM yZ gh gq gv gp gt gu g7 g6 gC gE jB jy jM jP jz jH jL jK jJ jI jF ju jv jw jx jN jD jE jq jO jQ jA jC jG jr gI gD gY ya gF gS gW gV gU gT gO gz g0 gM gN gw g9 yb gG gK gQ gx yd g8 gy yc gL gH gJ gA gZ gi gk gj yT yW yS yU yV qq uG
attribute [local simp] faL fdL iaL ixL qS zm ze eqK eqL qX zE uA yQ vg y5 y7 y9 vc ve vf y6 vb y8 vd zM LV.cells LV.whole qq uQ gg gf stL zN ui uI qa.alloc yg ye yh yu yt yr yq yp yo yn ym yk yj qe uD
def whyE(F:List Stp)(a:qd):Int:=if 300<F.length then 2 else if qav F 0 F then (match qaL a F 0 with
 |none=>5
 |some _=>0) else 8
def qcP(F:List Stp)(a:qd):List Int:=if 300<F.length then [] else if qav F 0 F then (match qaL a F 0 with
 |none=>[]
 |some k=>whyL F k) else []
theorem qzR(i:Nat)(js:List Int):js.any (qcj i) = !(js.all fun j=>decide (0<=j)&&decide (j<(i:Int))):=by
 rw[List.not_all_eq_any_not]
 congr 1
 funext j
 unfold qcj
 congr 2
 exact decide_eq_decide.2 (by omega)
def vK(F:List Stp)(k i:Nat):List Int:=((List.range i).filter fun i:Nat=>decide ((i:Int)∈uY F k)).map fun i:Nat=>(i:Int)
theorem qiZ(F:List Stp)(k i:Nat):vK F k (i+1)=if (i:Int)∈uY F k then vK F k i++[(i:Int)] else vK F k i:=by
 unfold vK
 rw[List.range_succ,List.filter_append,List.map_append]
 by_cases h:(i:Int)∈uY F k
 ·simp[h]
 ·simp[h]
theorem qme(F:List Stp)(k i:Nat):(vK F k i).length<=i:=by
 unfold vK
 rw[List.length_map]
 exact Nat.le_trans (List.length_filter_le _ _) (Nat.le_of_eq List.length_range)
theorem qlf{a:qd}:∀{r:List Stp}{i k:Nat},qaL a r i=some k->k<i+r.length
 |[],_,_,h=>by cases h
 |s::r,i,k,h=>by
  unfold qaL at h
  by_cases hc:zk s.atom a=0
  ·rw[if_pos hc]at h
   cases h
   rw[List.length_cons];omega
  ·rw[if_neg hc]at h
   have:=qlf h
   rw[List.length_cons];omega
structure NNW2 where
 z:Int
 r:Nat
 n:Nat
 W:List Int
structure NNW3 where
 q:Nat
 n:Nat
 W:List Int
structure NNW4 where
 i:Nat
 n:Nat
 own:Own
 ob:List (Nat×qc)
set_option maxHeartbeats 1000000 in
theorem qnm(F:List Stp)(hF:F.length<2^63)(own:Own)(a:qd)(ha:a.ok)(hFo:F.length<=300->∀s∈F,s.atom.ok/\s.frm.length<=2^20)(ob:List (Nat×qc))(n:Nat){kv kp:HP}
  (hk:∀own n',n<=n'->kv (.tup [.sl (qbB (qcP F a)) own,.int (whyE F a)]) ⟨ob,n'⟩):cP E0 F0 13 [.sl (F.map q9) own,qg a] ⟨ob,n⟩ kv kp:=by
 refine zX c13 fun hH=>⟨Nat.le_of_ble_eq_true rfl,?_⟩
 simp(disch:=omega)[b13]
 obtain⟨OB,hOB⟩:∃OB,(n,qc.cells [.str a.pred,ql a.args])::ob=OB:=⟨_,rfl⟩
 have hla:look n OB=some (.cells [.str a.pred,ql a.args]):=by rw[<-hOB];exact qq _ _ _
 have hOBd:qx OB (n+1):=by rw[<-hOB];exact⟨Nat.lt_succ_self _,hH⟩
 have fin:∀(m:Nat)(ob1:List (Nat×qc))(v:LV),(∀i,i<n+1->look i ob1=look i OB)->n<=m->kv v ⟨ob,m⟩->∃H'',HWk ⟨ob1,m⟩ H''/\(qa.Ok ⟨ob1,m⟩->H''.Ok)/\kv v H'':=fun m ob1 v ho hm hv=>⟨⟨ob,m⟩,qbC hH (fun i hi=>by rw[ho i (by omega),<-hOB,qe (by omega)]) (Nat.le_refl _),fun _=>qx.mono hH hm,hv⟩
 rw[hOB]
 unfold whyE qcP at hk
 by_cases h300:300<F.length
 ·rw[if_pos h300,if_pos h300]at hk
  have h300':(300:Int)<(F.length:Int):=by omega
  simp(disch:=omega)[h300',z8]
  exact fin _ _ _ (fun _ _=>rfl) (by omega) (hk .full (n+1) (by omega))
 rw[if_neg h300,if_neg h300]at hk
 have h300':¬(300:Int)<(F.length:Int):=by omega
 have hFo:=hFo (by omega)
 obtain⟨V,hV⟩:∃V,qav F 0 F=V:=⟨_,rfl⟩
 rw[hV]at hk
 simp(disch:=omega)[h300']
 refine qB (σ:=NN) (fun q=>(.nd (.sl (F.map q9) own) (.nd .bot (.nd (.ptr n 0) .nil (.nd .bot (.nd (.int F.length) .nil .nil) .nil)) .nil) (.nd .bot (.nd .bot .nil (.nd .bot (.nd (.int q.i) .nil .nil) .nil)) (.nd .bot (.nd .bot (.nd (.sl (F.map q9) own) .nil .nil) .nil) .nil)))) (fun q=>⟨OB,q.n⟩) (fun q=>F.length - q.i)
  (fun q=>n+1<=q.n/\q.i<=F.length/\qav F q.i (F.drop q.i)=V) ⟨0,n+1⟩ ⟨Nat.le_refl _,Nat.zero_le _,hV⟩ (by simp[FT.Le,Wk]) ⟨HWk.refl _,fun h=>h⟩ ?_
 rintro⟨i,m⟩ ⟨hm,hi,he⟩ hok
 dsimp only at hm hi he hok
 by_cases hlt:i<F.length
 case pos=>
  rw[List.drop_eq_getElem_cons hlt]at he
  unfold qav at he
  have hfr:=(hFo _ (List.getElem_mem hlt)).2
  simp(disch:=omega)[hlt]
  refine qut F[i].frm hfr m (i:Int) ⟨by omega,by omega⟩ _ _ (by rw[qe (by omega)];exact qq _ _ _) fun n1 hn1=>?_
  rw[qzR]
  have hn1':m+1+1<=n1:=hn1
  obtain⟨A,hA⟩:∃A,(F[i].frm.all fun j=>decide (0<=j)&&decide (j<(i:Int)))=A:=⟨_,rfl⟩
  rw[hA]at he ⊢
  cases A
  ·rw[Bool.false_and]at he
   subst he
   simp(disch:=omega)[z8]
   exact fin _ _ _ (fun i hi=>by rw[qe (by omega),qe (by omega)]) (by omega) (hk .full n1 (by omega))
  ·rw[Bool.true_and]at he
   simp(disch:=omega)[qk (show i<2^62 by omega)]
   exact⟨⟨i+1,n1⟩,by dsimp only;omega,⟨by dsimp only;omega,by dsimp only;omega,he⟩,by simp[FT.Le,Wk],⟨Nat.le_refl _,fun j x hx=>by
    have:=hok.look hx
    dsimp only at this
    rw[qe (by omega),qe (by omega)]
    exact hx⟩,fun _=>qx.mono hok (by dsimp only;omega)⟩
 obtain rfl:i=F.length:=by omega
 rw[List.drop_length]at he
 have he:true=V:=he
 subst he
 simp only[if_true]at hk
 simp(disch:=omega)
 refine qtU F (by omega) own a (fun s hs=>(hFo s hs).1) ha n OB m hla fun m1 hm1=>?_
 cases hf:qaL a F 0 with
 |none=>
  rw[hf]at hk
  have hneg:qbf none<0:=by decide
  simp(disch:=omega)[hneg,z8]
  exact fin _ _ _ (fun _ _=>rfl) (by omega) (hk .full m1 (by omega))
 |some k=>
 rw[hf]at hk
 simp only at hk
 have hkF:k<F.length:=by have:=qlf hf;omega
 have hneg:¬((k:Int)<0):=by omega
 have hik:qbf (some k)=(k:Int):=rfl
 rw[hik]
 simp(disch:=omega)[hneg]
 rw[muN (W:=[]) (by simp[look])]
 have hadd:vq [] (k:Int)=[(k:Int)]:=by simp[vq]
 simp(disch:=omega)[hadd]
 refine qB (σ:=NNW2) (fun q=>(.nd (.sl (F.map q9) own) (.nd .bot .nil (.nd .bot (.nd (.map m1) .nil .nil) .nil)) (.nd .bot .nil (.nd .bot (.nd (.int q.z) .nil .nil) .nil)))) (fun q=>⟨(m1,.map (wI q.W))::OB,q.n⟩) (fun q=>q.r)
  (fun q=>q.z=(q.r:Int) - 1/\q.r<=k+1/\m1<q.n/\qae F q.r q.W=uY F k) ⟨(k:Int),k+1,m1+1,[(k:Int)]⟩ ⟨by dsimp only;omega,Nat.le_refl _,Nat.lt_succ_self _,rfl⟩ (by simp[FT.Le,Wk]) ⟨HWk.refl _,fun h=>h⟩ ?_
 rintro⟨z,r,n2,W⟩ ⟨hz,hr,hn2,hW⟩ hok2
 dsimp only at hz hr hn2 hW hok2
 have hlm:∀W:List Int,look m1 ((m1,qc.map (wI W))::OB)=some (.map (wI W)):=fun W=>qq _ _ _
 cases r with
 |succ r=>
  obtain rfl:z=(r:Int):=by omega
  have hrF:r<F.length:=by omega
  have hw2:IntKind.wrap .i64 ((r:Int) - 1)=(r:Int) - 1:=uM (by omega) (by omega)
  unfold qae at hW
  simp(disch:=omega)
  rw[lkN (hlm W)]
  by_cases hin:(r:Int)∈W
  case neg=>
   rw[if_neg hin]at hW
   rw[decide_eq_false hin]
   simp(disch:=omega)[hw2]
   exact⟨⟨(r:Int) - 1,r,n2,W⟩,by dsimp only;omega,⟨rfl,by dsimp only;omega,hn2,hW⟩,by simp[FT.Le,Wk],HWk.refl _,fun h=>h⟩
  rw[if_pos hin,List.getElem?_eq_getElem hrF]at hW
  simp only at hW
  have hfr:=(hFo _ (List.getElem_mem hrF)).2
  rw[decide_eq_true hin]
  simp(disch:=omega)[hrF]
  refine qB (σ:=NNW3) (fun q=>(.nd (.sl (F.map q9) own) (.nd .bot (.nd .bot .nil (.nd .bot (.nd .bot .nil (.nd (.int F[r].frm.length) .nil .nil)) .nil)) (.nd .bot (.nd (.map m1) .nil .nil) .nil)) (.nd .bot (.nd .bot .nil (.nd .bot (.nd .bot .nil (.nd (.int q.q) .nil .nil)) .nil)) (.nd .bot (.nd (.int r) (.nd .bot .nil (.nd (.sl (F[r].frm.map LV.int) .no) .nil .nil)) .nil) .nil)))) (fun q=>⟨(m1,.map (wI q.W))::OB,q.n⟩) (fun q=>F[r].frm.length - q.q)
   (fun q=>q.q<=F[r].frm.length/\m1<q.n/\qae F r ((F[r].frm.drop q.q).foldl vq q.W)=uY F k) ⟨0,n2,W⟩ ⟨Nat.zero_le _,hn2,hW⟩ (by simp[FT.Le,Wk]) ⟨HWk.refl _,fun h=>h⟩ ?_
  rintro⟨q,n3,W3⟩ ⟨hq,hn3,hW3⟩ hok3
  dsimp only at hq hn3 hW3 hok3
  by_cases hqf:q<F[r].frm.length
  ·rw[List.drop_eq_getElem_cons hqf,List.foldl_cons]at hW3
   simp(disch:=omega)[hqf]
   rw[muN (hlm W3)]
   simp(disch:=omega)[qk (show q<2^62 by omega)]
   exact⟨⟨q+1,n3,vq W3 F[r].frm[q]⟩,by dsimp only;omega,⟨by dsimp only;omega,hn3,hW3⟩,by simp[FT.Le,Wk],HWk.refl _,fun h=>h⟩
  ·obtain rfl:q=F[r].frm.length:=by omega
   rw[List.drop_length]at hW3
   simp(disch:=omega)[hw2]
   exact⟨⟨(r:Int) - 1,r,n3,W3⟩,by dsimp only;omega,⟨rfl,by dsimp only;omega,hn3,hW3⟩,by simp[FT.Le,Wk],HWk.refl _,fun h=>h⟩
 |zero=>
 have hz0:¬0<=z:=by omega
 obtain rfl:W=uY F k:=hW
 simp(disch:=omega)[hz0]
 refine qB (σ:=NNW4) (fun q=>(.nd .bot (.nd .bot (.nd .bot .nil (.nd .bot .nil (.nd .bot .nil (.nd (.sl (F.map q9) own) .nil .nil)))) (.nd .bot (.nd (.map m1) .nil .nil) (.nd (.sl (qbB (vK F k q.i)) q.own) .nil (.nd .bot .nil (.nd (.int q.i) .nil .nil))))) (.nd .bot (.nd .bot .nil (.nd .bot .nil (.nd .bot .nil (.nd (.int F.length) .nil .nil)))) .nil))) (fun q=>⟨q.ob,q.n⟩) (fun q=>F.length - q.i)
  (fun q=>q.i<=F.length/\vS ⟨(m1,.map (wI (uY F k)))::OB,n2⟩ 1 (vK F k q.i).length q.own q.ob q.n) ⟨0,n2,.full,(m1,.map (wI (uY F k)))::OB⟩ ⟨Nat.zero_le _,.inl ⟨rfl,rfl,Nat.le_refl _⟩⟩ (by simp[FT.Le,Wk,vK]) ⟨HWk.refl _,fun h=>h⟩ ?_
 rintro⟨i,n3,own3,ob3⟩ ⟨hi,hr3⟩ hok3
 dsimp only at hi hr3 hok3
 have hl3:look m1 ob3=some (.map (wI (uY F k))):=by rw[hr3.old.2 m1 hn2];exact qq _ _ _
 have hn3:=hr3.old.1
 dsimp only at hn3
 by_cases hlt:i<F.length
 case pos=>
  have hsu:=qiZ F k i
  have htl:=qme F k i
  simp(disch:=omega)[hlt]
  rw[lkN hl3]
  by_cases hin:(i:Int)∈uY F k
  ·rw[if_pos hin]at hsu
   rw[decide_eq_true hin]
   simp(disch:=omega)
   refine zF ?_
   obtain⟨own4,ob4,n4,e4,hr4,hn4⟩:=qfL (sz:=1) (es:=qbB (vK F k i)) (by omega) (qpt _) (by rw[List.length_map];omega) (by rw[List.length_map];exact hr3) (x:=.int (i:Int)) rfl .full
   rw[List.length_map]at hr4
   simp(disch:=omega)
   rw[show apL ⟨ob3,n3⟩ 1 (.sl (List.map LV.int (vK F k i)) own3) (.sl [.int (i:Int)] .full)=_ from e4]
   simp(disch:=omega)[qk (show i<2^62 by omega)]
   refine⟨⟨i+1,n4,own4,ob4⟩,by dsimp only;omega,⟨by dsimp only;omega,by dsimp only;rw[hsu,List.length_append];exact hr4⟩,by simp[FT.Le,Wk,hsu],HWk.refl _,fun h=>h⟩
  ·rw[if_neg hin]at hsu
   rw[decide_eq_false hin]
   simp(disch:=omega)[qk (show i<2^62 by omega)]
   exact⟨⟨i+1,n3,own3,ob3⟩,by dsimp only;omega,⟨by dsimp only;omega,by dsimp only;rw[hsu];exact hr3⟩,by simp[FT.Le,Wk,hsu],HWk.refl _,fun h=>h⟩
 obtain rfl:i=F.length:=by omega
 have e:vK F k F.length=whyL F k:=rfl
 rw[e]at hr3 ⊢
 simp(disch:=omega)[z8]
 exact fin _ _ _ (fun j hj=>by rw[hr3.old.2 j (by dsimp only;omega)];exact qe (by omega) _ _) (by omega) (hk own3 n3 (by omega))
def wm(k:Nat)(W:List Int):List Bool:=(List.range (k+1)).map fun i:Nat=>decide ((i:Int)∈W)
theorem qgI(k:Nat)(W:List Int):(wm k W).length=k+1:=by simp[wm]
theorem qfl{k p:Nat}{W:List Int}(h:p<=k):(wm k W)[p]? = some (decide ((p:Int)∈W)):=by
 unfold wm
 rw[List.getElem?_map,List.getElem?_range (by omega)]
 rfl
theorem qzw{k p:Nat}{W:List Int}(h:p<=k):(wm k W).set p true=wm k (vq W (p:Int)):=by
 apply List.ext_getElem?
 intro i
 by_cases hi:i<=k
 ·rw[qfl hi,List.getElem?_set,qfl hi,qgI]
  by_cases hp:p=i
  ·subst hp
   rw[if_pos rfl,if_pos (by omega),decide_eq_true (qga.2 (.inr rfl))]
  ·rw[if_neg hp]
   congr 1
   refine decide_eq_decide.2 ⟨fun h=>qga.2 (.inl h),fun h=>(qga.1 h).elim id fun e=>?_⟩
   omega
 ·rw[List.getElem?_eq_none (by rw[List.length_set,qgI];omega),List.getElem?_eq_none (by rw[qgI];omega)]
theorem qzx(k:Nat):qc.arr 1 (List.replicate (k+1) (LV.bool false))=w9 (wm k []):=by
 congr 1
 apply List.ext_getElem?
 intro i
 by_cases hi:i<=k
 ·rw[List.getElem?_map,qfl hi,List.getElem?_replicate,if_pos (by omega)]
  simp
 ·rw[List.getElem?_eq_none (by rw[List.length_replicate];omega),List.getElem?_eq_none (by rw[List.length_map,qgI];omega)]
section
variable{k:Nat}{W:List Int}{o n:Nat}{ob:List (Nat×qc)}(hl:look o ob=some (w9 (wm k W))){p:Nat}(hp:p<=k)
include hl hp
theorem ba_ia:iaL ⟨ob,n⟩ 1 (.asl o 0 (k+1)) (.int (p:Int))=some (.ptr o p):=by
 simp[iaL,uG,hl,show p<k+1 by omega]
theorem qrO:stL ⟨ob,n⟩ 1 (.ptr o p) (.bool true)=some ⟨qy o (w9 (wm k (vq W (p:Int)))) ob,n⟩:=by
 rw[bs_st hl (by rw[qgI];omega),qzw hp]
end
theorem qst{F:List Stp}(hF:qiX F){k:Nat}(hk:k<F.length):vK F k (k+1)=whyL F k:=by
 obtain⟨_,h2,_⟩:=qss hF k
 have key:∀d,vK F k (k+1+d)=vK F k (k+1):=by
  intro d
  induction d with
  |zero=>rfl
  |succ d ih=>
   rw[show k+1+(d+1)=(k+1+d)+1 by omega,qiZ,if_neg,ih]
   intro h
   have:=h2 _ h
   omega
 have:=key (F.length - (k+1))
 rw[show k+1+(F.length - (k+1))=F.length by omega]at this
 exact this.symm
def okJ(i:Nat)(l:List Int):Bool:=l.all fun j=>decide (0<=j)&&decide (j<(i:Int))
theorem qwt(i:Nat)(j:Int)(l:List Int):okJ i (j::l)=((decide (0<=j)&&decide (j<(i:Int)))&&okJ i l):=rfl
theorem qzF(F:List Stp)(i:Nat)(s:Stp)(r:List Stp):qav F i (s::r)=(okJ i s.frm&&qav F (i+1) r):=rfl
def orO(o x:Option Nat):Option Nat:=match o with
 |none=>x
 |some k=>some k
structure NNV1 where
 i:Nat
 n:Nat
 o:Option Nat
structure NNV5 where
 i:Nat
 n:Nat
 own:Own
 ob:List (Nat×qc)
set_option maxHeartbeats 1000000 in
theorem qmV(F:List Stp)(hF:F.length<2^63)(own:Own)(a:qd)(ha:a.ok)(hFo:F.length<=300->∀s∈F,s.atom.ok/\s.frm.length<=2^20)(ob:List (Nat×qc))(n:Nat){kv kp:HP}
  (hk:∀ow n',n<=n'->kv (.agg [.sl (qbB (qcP F a)) ow,.int (whyE F a)]) ⟨ob,n'⟩):cP E0 F0 14 [.sl (F.map q9) own,qg a] ⟨ob,n⟩ kv kp:=by
 refine zX c14 fun hH=>⟨Nat.le_of_ble_eq_true rfl,?_⟩
 simp(disch:=omega)[b14]
 obtain⟨OB,hOB⟩:∃OB,(n,qc.cells [.str a.pred,ql a.args])::ob=OB:=⟨_,rfl⟩
 have hla:∀x:qc,look n ((n+1,x)::OB)=some (.cells [.str a.pred,ql a.args]):=fun x=>by rw[qe (by omega),<-hOB];exact qq _ _ _
 have hOBd:qx OB (n+1):=by rw[<-hOB];exact⟨Nat.lt_succ_self _,hH⟩
 have fin:∀(m:Nat)(ob1:List (Nat×qc))(v:LV),(∀i,i<n->look i ob1=look i ob)->n<=m->kv v ⟨ob,m⟩->∃H'',HWk ⟨ob1,m⟩ H''/\(qa.Ok ⟨ob1,m⟩->H''.Ok)/\kv v H'':=fun m ob1 v ho hm hv=>⟨⟨ob,m⟩,qbC hH ho (Nat.le_refl _),fun _=>qx.mono hH hm,hv⟩
 have hold:∀i,i<n->look i OB=look i ob:=fun i hi=>by rw[<-hOB,qe (by omega)]
 rw[hOB]
 unfold whyE qcP at hk
 by_cases h300:300<F.length
 ·rw[if_pos h300,if_pos h300]at hk
  have h300':(300:Int)<(F.length:Int):=by omega
  simp(disch:=omega)[h300',zU]
  exact fin _ _ _ (fun i hi=>by rw[qe (by omega)];exact hold i hi) (by omega) (hk .full (n+1+1) (by omega))
 rw[if_neg h300,if_neg h300]at hk
 have h300':¬(300:Int)<(F.length:Int):=by omega
 have hFo:=hFo (by omega)
 obtain⟨V,hV⟩:∃V,qav F 0 F=V:=⟨_,rfl⟩
 obtain⟨A,hA⟩:∃A,qaL a F 0=A:=⟨_,rfl⟩
 rw[hV,hA]at hk
 simp(disch:=omega)[h300']
 refine qB (σ:=NNV1) (fun q=>(.nd (.sl (F.map q9) own) (.nd .bot (.nd (.ptr n 0) .nil .nil) (.nd (.int (qbf q.o)) .nil .nil)) (.nd .bot (.nd (.ptr (n+1) 0) .nil .nil) (.nd (.int q.i) .nil .nil)))) (fun q=>⟨(n+1,.cells [Nl,.int 0])::OB,q.n⟩) (fun q=>F.length - q.i)
  (fun q=>n+1+1<=q.n/\q.i<=F.length/\qav F q.i (F.drop q.i)=V/\orO q.o (qaL a (F.drop q.i) q.i)=A) ⟨0,n+1+1,none⟩ ⟨Nat.le_refl _,Nat.zero_le _,hV,hA⟩ (by simp[FT.Le,Wk,qbf]) ⟨HWk.refl _,fun h=>h⟩ ?_
 rintro⟨i,m,o⟩ ⟨hm,hi,he,ho⟩ hok
 dsimp only at hm hi he ho hok
 by_cases hlt:i<F.length
 case pos=>
  rw[List.drop_eq_getElem_cons hlt]at he ho
  rw[qzF]at he
  obtain⟨hao,hfr⟩:=hFo _ (List.getElem_mem hlt)
  simp(disch:=omega)[hlt]
  refine qB (σ:=NN) (fun q=>(.nd (.sl (F.map q9) own) (.nd .bot (.nd (.ptr n 0) (.nd (.int q.i) .nil .nil) .nil) (.nd (.int (qbf o)) .nil .nil)) (.nd .bot (.nd (.ptr (n+1) 0) .nil .nil) (.nd (.int i) .nil .nil)))) (fun q=>⟨(n+1,.cells [Nl,.int 0])::OB,q.n⟩) (fun q=>F[i].frm.length - q.i)
   (fun q=>n+1+1<=q.n/\q.i<=F[i].frm.length/\(okJ i (F[i].frm.drop q.i)&&qav F (i+1) (F.drop (i+1)))=V) ⟨0,m⟩ ⟨hm,Nat.zero_le _,he⟩ (by simp[FT.Le,Wk]) ⟨HWk.refl _,fun h=>h⟩ ?_
  rintro⟨k,m2⟩ ⟨hm2,hk2,he2⟩ hok2
  dsimp only at hm2 hk2 he2 hok2
  by_cases hkf:k<F[i].frm.length
  case pos=>
   rw[List.drop_eq_getElem_cons hkf,qwt]at he2
   by_cases h0:F[i].frm[k]<0
   ·rw[decide_eq_false (by omega:¬(0<=F[i].frm[k])),Bool.false_and,Bool.false_and,Bool.false_and]at he2
    subst he2
    simp(disch:=omega)[hlt,hkf,h0,zU]
    exact fin _ _ _ (fun i hi=>by rw[qe (by omega)];exact hold i hi) (by omega) (hk .full m2 (by omega))
   by_cases h1:(i:Int)<=F[i].frm[k]
   ·rw[decide_eq_false (by omega:¬(F[i].frm[k]<(i:Int))),Bool.and_false,Bool.false_and,Bool.false_and]at he2
    subst he2
    simp(disch:=omega)[hlt,hkf,h0,h1,zU]
    exact fin _ _ _ (fun i hi=>by rw[qe (by omega)];exact hold i hi) (by omega) (hk .full m2 (by omega))
   ·rw[decide_eq_true (by omega:(0:Int)<=F[i].frm[k]),decide_eq_true (by omega:F[i].frm[k]<(i:Int)),Bool.true_and,Bool.true_and]at he2
    simp(disch:=omega)[hlt,hkf,h0,h1,qk (show k<2^62 by omega)]
    exact⟨⟨k+1,m2⟩,by dsimp only;omega,⟨hm2,by dsimp only;omega,he2⟩,by simp[FT.Le,Wk],HWk.refl _,fun h=>h⟩
  obtain rfl:k=F[i].frm.length:=by omega
  rw[List.drop_length]at he2
  have he2:(true&&qav F (i+1) (F.drop (i+1)))=V:=he2
  rw[Bool.true_and]at he2
  have hnx:IntKind.wrap .i64 ((i:Int)+1)=((i+1:Nat):Int):=qk (show i<2^62 by omega)
  unfold qaL at ho
  simp(disch:=omega)[hlt,hla]
  refine(qji F[i].atom a hao ha).go fun n3 hn3=>?_
  cases o with
  |some q=>
   have hq0:¬(q:Int)<0:=by omega
   have hiq:qbf (some q)=(q:Int):=rfl
   rw[hiq]
   cases hz:decide (zk F[i].atom a=0)
   ·simp(disch:=omega)[hnx]
    exact⟨⟨i+1,n3,some q⟩,by dsimp only;omega,⟨by dsimp only;omega,by dsimp only;omega,he2,ho⟩,by simp[FT.Le,Wk,hiq],HWk.refl _,fun h=>h⟩
   ·simp(disch:=omega)[hnx,hq0]
    exact⟨⟨i+1,n3,some q⟩,by dsimp only;omega,⟨by dsimp only;omega,by dsimp only;omega,he2,ho⟩,by simp[FT.Le,Wk,hiq],HWk.refl _,fun h=>h⟩
  |none=>
   have hiq:qbf none=-1:=rfl
   rw[hiq]
   by_cases hz:zk F[i].atom a=0
   ·rw[if_pos hz]at ho
    rw[decide_eq_true hz]
    simp(disch:=omega)[hnx]
    exact⟨⟨i+1,n3,some i⟩,by dsimp only;omega,⟨by dsimp only;omega,by dsimp only;omega,he2,ho⟩,by simp[FT.Le,Wk,qbf],HWk.refl _,fun h=>h⟩
   ·rw[if_neg hz]at ho
    rw[decide_eq_false hz]
    simp(disch:=omega)[hnx]
    exact⟨⟨i+1,n3,none⟩,by dsimp only;omega,⟨by dsimp only;omega,by dsimp only;omega,he2,ho⟩,by simp[FT.Le,Wk,qbf],HWk.refl _,fun h=>h⟩
 obtain rfl:i=F.length:=by omega
 rw[List.drop_length]at he ho
 have he:true=V:=he
 subst he
 simp only[if_true]at hk
 have hoA:o=A:=by
  rw[<-ho]
  cases o<;>rfl
 subst hoA
 cases o with
 |none=>
  have hiq:qbf none=-1:=rfl
  rw[hiq]
  simp(disch:=omega)[zU]
  exact fin _ _ _ (fun i hi=>by rw[qe (by omega)];exact hold i hi) (by omega) (hk .full m (by omega))
 |some k=>
 have hBack:qiX F:=fun i s hs j hj=>by
  have:=qrN.1 hV i s hs j hj
  omega
 simp only at hk
 have hkF:k<F.length:=by have:=qlf hA;omega
 have hiq:qbf (some k)=(k:Int):=rfl
 rw[hiq]
 have hneg:¬((k:Int)<0):=by omega
 have hk1:IntKind.wrap .i64 ((k:Int)+1)=((k+1:Nat):Int):=qk (show k<2^62 by omega)
 have hbig:k+1<=2^30:=by omega
 have hno:n+1<m:=by omega
 have hk10:(0:Int)<=(k:Int)+1:=by omega
 simp(disch:=omega)[-iaL,-stL,qe,uD,hneg,hk1,qvY,uG,hbig,hk10]
 obtain⟨o0,ho0⟩:∃x,qc.arr 1 (List.replicate (k+1) (B false))=x:=⟨_,rfl⟩
 have ho1:o0=w9 (wm k []):=by rw[<-ho0];exact qzx k
 have hadd:vq [] (k:Int)=[(k:Int)]:=by simp[vq]
 have ia0:iaL ⟨(m,o0)::(n+1,.cells [Nl,.int 0])::OB,m+1⟩ 1 (.asl m 0 (k+1)) (.int (k:Int))=some (.ptr m k):=by rw[ho1];exact ba_ia (qq _ _ _) (Nat.le_refl _)
 have st0:stL ⟨(m,o0)::(n+1,.cells [Nl,.int 0])::OB,m+1⟩ 1 (.ptr m k) (B true)=some ⟨(m,w9 (wm k [(k:Int)]))::(n+1,.cells [Nl,.int 0])::OB,m+1⟩:=by
  rw[ho1]
  have:=qrO (k:=k) (W:=[]) (o:=m) (n:=m+1) (ob:=(m,w9 (wm k []))::(n+1,.cells [Nl,.int 0])::OB) (qq _ _ _) (p:=k) (Nat.le_refl _)
  rw[hadd]at this
  rw[this]
  simp[qy]
 rw[ho0]
 simp(disch:=omega)[-iaL,-stL,qe,uD,ho0,ia0,st0]
 refine qB (σ:=NNW2) (fun q=>(.nd (.sl (F.map q9) own) (.nd .bot .nil (.nd (.int k) (.nd (.asl m 0 (k+1)) .nil .nil) .nil)) (.nd .bot (.nd (.ptr (n+1) 0) .nil .nil) (.nd .bot (.nd (.int q.z) .nil .nil) .nil)))) (fun q=>⟨(m,w9 (wm k q.W))::(n+1,.cells [Nl,.int 0])::OB,q.n⟩) (fun q=>q.r)
  (fun q=>q.z=(q.r:Int) - 1/\q.r<=k+1/\m<q.n/\qae F q.r q.W=uY F k) ⟨(k:Int),k+1,m+1,[(k:Int)]⟩ ⟨by dsimp only;omega,Nat.le_refl _,Nat.lt_succ_self _,rfl⟩ (by simp[FT.Le,Wk]) ⟨HWk.refl _,fun h=>h⟩ ?_
 rintro⟨z,r,n2,W⟩ ⟨hz,hr,hn2,hW⟩ hok2
 dsimp only at hz hr hn2 hW hok2
 cases r with
 |succ r=>
  obtain rfl:z=(r:Int):=by omega
  have hrF:r<F.length:=by omega
  have hw2:IntKind.wrap .i64 ((r:Int) - 1)=(r:Int) - 1:=uM (by omega) (by omega)
  unfold qae at hW
  rw[List.getElem?_eq_getElem hrF]at hW
  simp only at hW
  have hfr:=(hFo _ (List.getElem_mem hrF)).2
  simp(disch:=omega)[hrF]
  refine qB (σ:=NNW3) (fun q=>(.nd (.sl (F.map q9) own) (.nd .bot (.nd .bot .nil (.nd (.int q.q) .nil .nil)) (.nd (.int k) (.nd (.asl m 0 (k+1)) .nil .nil) .nil)) (.nd .bot (.nd (.ptr (n+1) 0) .nil .nil) (.nd .bot (.nd (.int r) .nil .nil) .nil)))) (fun q=>⟨(m,w9 (wm k q.W))::(n+1,.cells [Nl,.int 0])::OB,q.n⟩) (fun q=>F[r].frm.length - q.q)
   (fun q=>q.q<=F[r].frm.length/\m<q.n/\qae F r (if (r:Int)∈q.W then (F[r].frm.drop q.q).foldl vq q.W else q.W)=uY F k) ⟨0,n2,W⟩ ⟨Nat.zero_le _,hn2,hW⟩ (by simp[FT.Le,Wk]) ⟨HWk.refl _,fun h=>h⟩ ?_
  rintro⟨q,n3,W3⟩ ⟨hq,hn3,hW3⟩ hok3
  dsimp only at hq hn3 hW3 hok3
  by_cases hqf:q<F[r].frm.length
  ·by_cases hin:(r:Int)∈W3
   ·rw[if_pos hin,List.drop_eq_getElem_cons hqf,List.foldl_cons]at hW3
    have hfb:=hBack r F[r] (List.getElem?_eq_getElem hrF) F[r].frm[q] (List.getElem_mem hqf)
    obtain⟨p,hp⟩:∃p:Nat,F[r].frm[q]=(p:Int):=⟨F[r].frm[q].toNat,by omega⟩
    rw[hp]at hW3 hfb
    have stp:=qrO (k:=k) (W:=W3) (o:=m) (n:=n3) (ob:=(m,w9 (wm k W3))::(n+1,.cells [Nl,.int 0])::OB) (qq _ _ _) (p:=p) (by omega)
    have hpk:p<k+1:=by omega
    have hrk:r<k+1:=by omega
    have hbr:=qfl (k:=k) (p:=r) (W:=W3) (by omega)
    rw[decide_eq_true hin]at hbr
    simp(disch:=omega)[-stL,qe,hrF,hqf,hrk,hpk,hbr,hp,stp,qy,qk (show q<2^62 by omega)]
    have hin2:(r:Int)∈vq W3 (p:Int):=qga.2 (.inl hin)
    exact⟨⟨q+1,n3,vq W3 (p:Int)⟩,by dsimp only;omega,⟨by dsimp only;omega,hn3,by dsimp only;rw[if_pos hin2];exact hW3⟩,by simp[FT.Le,Wk],HWk.refl _,fun h=>h⟩
   ·rw[if_neg hin]at hW3
    have hrk:r<k+1:=by omega
    have hbr:=qfl (k:=k) (p:=r) (W:=W3) (by omega)
    rw[decide_eq_false hin]at hbr
    simp(disch:=omega)[hrF,hqf,hrk,hbr,hw2]
    exact⟨⟨(r:Int) - 1,r,n3,W3⟩,by dsimp only;omega,⟨rfl,by dsimp only;omega,hn3,hW3⟩,by simp[FT.Le,Wk],HWk.refl _,fun h=>h⟩
  ·obtain rfl:q=F[r].frm.length:=by omega
   rw[List.drop_length]at hW3
   have hW3:qae F r W3=uY F k:=by
    rw[<-hW3]
    split<;>rfl
   simp(disch:=omega)[hrF,hw2]
   exact⟨⟨(r:Int) - 1,r,n3,W3⟩,by dsimp only;omega,⟨rfl,by dsimp only;omega,hn3,hW3⟩,by simp[FT.Le,Wk],HWk.refl _,fun h=>h⟩
 |zero=>
 have hz0:¬0<=z:=by omega
 obtain rfl:W=uY F k:=hW
 simp(disch:=omega)[hz0]
 refine qB (σ:=NNV5) (fun q=>(.nd .bot (.nd .bot .nil (.nd (.int k) (.nd (.asl m 0 (k+1)) .nil .nil) (.nd (.int q.i) .nil .nil))) (.nd .bot (.nd (.ptr (n+1) 0) .nil (.nd (.sl (qbB (vK F k q.i)) q.own) .nil .nil)) .nil))) (fun q=>⟨q.ob,q.n⟩) (fun q=>k+1 - q.i)
  (fun q=>q.i<=k+1/\vS ⟨(m,w9 (wm k (uY F k)))::(n+1,.cells [Nl,.int 0])::OB,n2⟩ 1 (vK F k q.i).length q.own q.ob q.n) ⟨0,n2,.full,(m,w9 (wm k (uY F k)))::(n+1,.cells [Nl,.int 0])::OB⟩ ⟨Nat.zero_le _,.inl ⟨rfl,rfl,Nat.le_refl _⟩⟩ (by simp[FT.Le,Wk,vK]) ⟨HWk.refl _,fun h=>h⟩ ?_
 rintro⟨i,n3,own3,ob3⟩ ⟨hi3,hr3⟩ hok3
 dsimp only at hi3 hr3 hok3
 have hl3:look m ob3=some (w9 (wm k (uY F k))):=by rw[hr3.old.2 m hn2];exact qq _ _ _
 have hc3:look (n+1) ob3=some (.cells [Nl,.int 0]):=by rw[hr3.old.2 (n+1) (by dsimp only;omega),qe (by omega)];exact qq _ _ _
 have hn3:=hr3.old.1
 dsimp only at hn3
 by_cases hlt3:i<=k
 case pos=>
  have hsu:=qiZ F k i
  have htl:=qme F k i
  have hik:i<k+1:=by omega
  have hbi:=qfl (k:=k) (p:=i) (W:=uY F k) hlt3
  by_cases hin:(i:Int)∈uY F k
  ·rw[if_pos hin]at hsu
   rw[decide_eq_true hin]at hbi
   simp(disch:=omega)[hlt3,hl3,hik,hbi]
   refine zF ?_
   obtain⟨own4,ob4,n4,e4,hr4,hn4⟩:=qfL (sz:=1) (es:=qbB (vK F k i)) (by omega) (qpt _) (by rw[List.length_map];omega) (by rw[List.length_map];exact hr3) (x:=.int (i:Int)) rfl .full
   rw[List.length_map]at hr4
   simp(disch:=omega)
   rw[show apL ⟨ob3,n3⟩ 1 (.sl (List.map LV.int (vK F k i)) own3) (.sl [.int (i:Int)] .full)=_ from e4]
   simp(disch:=omega)[qk (show i<2^62 by omega)]
   refine⟨⟨i+1,n4,own4,ob4⟩,by dsimp only;omega,⟨by dsimp only;omega,by dsimp only;rw[hsu,List.length_append];exact hr4⟩,by simp[FT.Le,Wk,hsu],HWk.refl _,fun h=>h⟩
  ·rw[if_neg hin]at hsu
   rw[decide_eq_false hin]at hbi
   simp(disch:=omega)[hlt3,hl3,hik,hbi,qk (show i<2^62 by omega)]
   exact⟨⟨i+1,n3,own3,ob3⟩,by dsimp only;omega,⟨by dsimp only;omega,by dsimp only;rw[hsu];exact hr3⟩,by simp[FT.Le,Wk,hsu],HWk.refl _,fun h=>h⟩
 obtain rfl:i=k+1:=by omega
 rw[qst hBack hkF]at hr3 ⊢
 have hkk:¬(k:Int)+1<=(k:Int):=by omega
 simp(disch:=omega)[hlt3,hkk,hc3,zU]
 rw[jl hc3]
 simp(disch:=omega)
 exact fin _ _ _ (fun j hj=>by rw[vR (by omega),hr3.old.2 j (by dsimp only;omega),qe (by omega),qe (by omega)];exact hold j hj) (by omega) (hk own3 n3 (by omega))
theorem qmJ(a:List Int)(o1 o2:Own)(ha:a.length<2^60):qh 16 [.sl (qbB a) o1,.sl (qbB a) o2] (.bool true):=by
 refine qh.of c16 fun H hH=>⟨Nat.le_of_ble_eq_true rfl,?_⟩
 simp(disch:=omega)[b16]
 refine qB (σ:=NN) (fun q=>(.nd (.sl (qbB a) o1) (.nd (.sl (qbB a) o2) .nil (.nd (.int q.i) .nil .nil)) .nil)) (fun q=>⟨H.objs,q.n⟩) (fun q=>a.length - q.i)
  (fun q=>H.next<=q.n/\q.i<=a.length) ⟨0,H.next⟩ ⟨Nat.le_refl _,Nat.zero_le _⟩ (by simp[FT.Le,Wk]) ⟨HWk.refl _,fun h=>h⟩ ?_
 rintro⟨i,n⟩ ⟨hn,hi⟩ hok
 dsimp only at hn hi
 by_cases hlt:i<a.length
 ·simp(disch:=omega)[hlt,qk (show i<2^62 by omega)]
  exact⟨⟨i+1,n⟩,by dsimp only;omega,⟨by dsimp only;omega,by dsimp only;omega⟩,by simp[FT.Le,Wk],HWk.refl _,fun h=>h⟩
 ·simp(disch:=omega)[hlt]
  exact qp hH (by first|rfl|simp[])
theorem qmf(F:List Stp)(a:qd):(qcP F a).length<2^60:=by
 unfold qcP
 split
 ·simp
 ·rename_i h
  split
  ·split
   ·simp
   ·unfold whyL
    rw[List.length_map]
    refine Nat.lt_of_le_of_lt (List.length_filter_le _ _) ?_
    rw[List.length_range]
    omega
  ·simp
set_option maxHeartbeats 2000000 in
theorem qtN(hs:qh 9 [] (.bool true))(l:List qf)(base:List qd)(F:List Stp)(a:qd)(hb:∀c∈l,c.body.length<2^63)(hbl:base.length<2^63)(hFl:F.length<2^63)(ob:List (Nat×qc))(n:Nat)(hni:qU ob){kv kp:HP}
  (hk:∀n',n<=n'->kv (.bool true) ⟨ob,n'⟩):cP E0 F0 3 [qz l,.sl (base.map qg) .no,.sl (F.map q9) .no,qg a] ⟨ob,n⟩ kv kp:=by
 refine zX c3 fun hH=>⟨Nat.le_of_ble_eq_true rfl,?_⟩
 simp(disch:=omega)[b3]
 refine(qti 6 (by omega) l hb).go fun n1 hn1=>?_
 obtain⟨OB,hOB⟩:∃OB,(n,qc.cells [.str a.pred,ql a.args])::ob=OB:=⟨_,rfl⟩
 have hla:look n OB=some (.cells [.str a.pred,ql a.args]):=by rw[<-hOB];exact qq _ _ _
 have hniO:qU OB:=by rw[<-hOB];exact hni.cons _ rfl
 have fin1:∀(m:Nat)(ob1:List (Nat×qc)),(∀i,i<n+1->look i ob1=look i OB)->n<=m->∃H'',HWk ⟨ob1,m⟩ H''/\(qa.Ok ⟨ob1,m⟩->H''.Ok)/\kv (.bool true) H'':=fun m ob1 ho hm=>⟨⟨ob,m⟩,qbC hH (fun i hi=>by rw[ho i (by omega),<-hOB,qe (by omega)]) (Nat.le_refl _),fun _=>qx.mono hH hm,hk m hm⟩
 rw[hOB]
 cases h1:qes 6 l
 ·simp(disch:=omega)
  refine hs.go fun n2 hn2=>?_
  simp(disch:=omega)
  exact fin1 _ _ (fun _ _=>rfl) (by omega)
 simp(disch:=omega)
 refine(qtj base (by omega)).go fun n2 hn2=>?_
 cases h2:qet base
 ·simp(disch:=omega)
  refine hs.go fun n3 hn3=>?_
  simp(disch:=omega)
  exact fin1 _ _ (fun _ _=>rfl) (by omega)
 simp(disch:=omega)[hla]
 refine(qfA a).go fun n3 hn3=>?_
 cases h3:a.small
 ·simp(disch:=omega)
  refine hs.go fun n4 hn4=>?_
  simp(disch:=omega)
  exact fin1 _ _ (fun _ _=>rfl) (by omega)
 simp(disch:=omega)
 refine(qth F hFl).go fun n4 hn4=>?_
 cases h4:qer F
 ·simp(disch:=omega)
  refine hs.go fun n5 hn5=>?_
  simp(disch:=omega)
  exact fin1 _ _ (fun _ _=>rfl) (by omega)
 have ha:=qd.small_ok h3
 have hcl:l.length<=40->∀c∈l,qch c=true:=by
  intro hl c hc
  unfold qes at h1
  rw[if_neg (by omega)]at h1
  split at h1
  ·rename_i hall
   exact List.all_eq_true.1 hall c hc
  ·cases h1
 have hsm:qcJ l:=⟨fun hl c hc=>quI (hcl hl c hc)⟩
 have hbo:base.length<=100->∀x∈base,x.ok:=by
  intro hl x hx
  unfold qet at h2
  rw[if_neg (by omega)]at h2
  split at h2
  ·rename_i hall
   exact qd.small_ok (List.all_eq_true.1 hall x hx)
  ·cases h2
 have hFo:F.length<=300->∀s∈F,s.atom.ok/\s.frm.length<=2^20:=by
  intro hl x hx
  unfold qer at h4
  rw[if_neg (by omega)]at h4
  split at h4
  ·rename_i hall
   have:=List.all_eq_true.1 hall x hx
   unfold qbs at this
   simp only[Bool.and_eq_true,decide_eq_true_iff]at this
   exact⟨qd.small_ok this.1,by omega⟩
  ·cases h4
 obtain⟨fuel,R,hR,hRb,hM,hEb,hLev⟩:=meet9 l base
 have hI:qiS l fuel R base:=⟨hsm,hR,hRb,hbl,hbo⟩
 have hRI:RIn l base:=⟨hsm,fun hc c hcm=>by
  have hll:=(qfg hc).1
  have:=hcl hll c hcm
  unfold qch at this
  simp only[Bool.and_eq_true,decide_eq_true_iff]at this
  rw[qrb]
  exact this.2.2.1,hbl,hbo⟩
 simp(disch:=omega)
 refine quw hI _ _ _ hniO (fun h0 n5 hn5=>?_) (fun h0 oD n5 hn5=>?_)
 ·simp(disch:=omega)
  refine qmW hRI _ _ fun n6 hn6=>?_
  dsimp only at hn6
  have herr:=hM.err
  rw[herr]at h0
  have h0':=h0
  rw[<-herr]at h0'
  simp(disch:=omega)[herr,h0]
  simp(disch:=omega)[hla]
  refine qnm F hFl .no a ha hFo _ _ fun oW n8 hn8=>?_
  simp(disch:=omega)[hla]
  refine qmV F hFl .no a ha hFo _ _ fun oR n9 hn9=>?_
  simp(disch:=omega)[hla]
  refine hs.go fun n10 hn10=>?_
  simp(disch:=omega)
  refine qno hI .no F hFl hFo _ _ ((hniO.cons _ rfl).cons _ rfl) fun n11 hn11=>?_
  simp(disch:=omega)
  refine qjk hRI R hEb .no .no F hFl hFo _ fun n12 hn12=>?_
  dsimp only at hn12
  simp(disch:=omega)
  refine(qmJ (qcP F a) oW oR (qmf F a)).go fun n13 hn13=>?_
  simp(disch:=omega)
  exact fin1 _ _ (fun i hi=>by rw[qe (by omega),qe (by omega)]) (by omega)
 ·simp(disch:=omega)
  refine qmW hRI _ _ fun n6 hn6=>?_
  dsimp only at hn6
  have herr:=hM.err
  rw[h0]at herr
  obtain⟨hst,hml,hNm,hBk⟩:=qwz hLev h0
  have hbe:zb l R base=0:=by
   unfold ua at h0
   by_cases h:zb l R base≠0
   ·rw[if_pos h]at h0;exact absurd h0 h
   ·omega
  have hS0:qdx l R base (vX l R base)=0:=by
   unfold qdx
   rw[if_neg (by omega),if_neg (by omega),if_pos hst]
  have hFo0:∀s∈vX l R base,s.atom.ok/\s.frm.length<=2^20:=fun s hs=>by
   obtain⟨i,hi⟩:=List.mem_iff_getElem?.1 hs
   have:=(hBk i s hi).1
   refine⟨?_,by omega⟩
   have hg:=(quD (qdg (qgJ hbe).1) (qgJ hbe).2.2.2 hml hst).good _ (List.mem_map.2 ⟨s,hs,rfl⟩)
   exact jo hg.1
  simp(disch:=omega)[<-herr]
  refine qjk hRI R hEb .no oD (vX l R base) (by omega) (fun _=>hFo0) _ fun n7 hn7=>?_
  rw[hS0]
  dsimp only at hn7
  simp(disch:=omega)[hla]
  refine qnm F hFl .no a ha hFo _ _ fun oW n8 hn8=>?_
  simp(disch:=omega)[hla]
  refine qmV F hFl .no a ha hFo _ _ fun oR n9 hn9=>?_
  simp(disch:=omega)[hla]
  refine hs.go fun n10 hn10=>?_
  simp(disch:=omega)
  refine qno hI .no F hFl hFo _ _ ((hniO.cons _ rfl).cons _ rfl) fun n11 hn11=>?_
  simp(disch:=omega)
  refine qjk hRI R hEb .no .no F hFl hFo _ fun n12 hn12=>?_
  dsimp only at hn12
  simp(disch:=omega)
  refine(qmJ (qcP F a) oW oR (qmf F a)).go fun n13 hn13=>?_
  simp(disch:=omega)
  exact fin1 _ _ (fun i hi=>by rw[qe (by omega),qe (by omega)]) (by omega)
end Go.Abs.Tz
namespace Go.Abs.Tz
set_option maxRecDepth 20000
open Go Go.Abs Go.Proofs Go.ChangeShapes Go.WideShapes Go.RowKit Go.Proofs.YtghfbggphgpjgaaGreatDoor
theorem law_run9(l:List qf)(bs:List qd)(F:List Stp)(hF:F.length<2^63)(a:qd)(hb:∀c∈l,c.body.length<2^63)(hbl:bs.length<2^63)(W:World)(hW:laidMetH Tryz.prog Rows.customModelIsRightRow.laid W)(us:Array Value)(h0:us.size=4)
  (h1:VR (gOf W) W (qz l) (us.getD 0 undef)) (h2:VR (gOf W) W (.sl (bs.map qg) .no) (us.getD 1 undef)) (h3:VR (gOf W) W (.sl (F.map q9) .no) (us.getD 2 undef)) (h4:VR (gOf W) W (qg a) (us.getD 3 undef)):
  Calls Tryz.prog 3 us W fun e W'=>e=.returned (.bool true)/\Below W.heap.size W W':=by
 have hO:cP E0 F0 3 [qz l,.sl (bs.map qg) .no,.sl (F.map q9) .no,qg a] ⟨[],1⟩ (fun v _=>v=.bool true) (fun _ _=>False):=
  qtN qtl l bs F a hb hbl hF [] 1 (fun i m l k n=>by simp[look]) fun _ _=>rfl
 have hC:qZ Tryz.prog E0 3 [qz l,.sl (bs.map qg) .no,.sl (F.map q9) .no,qg a] ⟨[],1⟩ _:=qag qbD qaK (hO trivial)
 refine(hC.2 (gOf W) W us (qxD W 1) (qxE W hW) ⟨h0,fun i x hi=>?_⟩).mono fun e W' hp=>?_
 ·match i,hi with
  |0,hi=>simp at hi;subst hi;exact h1
  |1,hi=>simp at hi;subst hi;exact h2
  |2,hi=>simp at hi;subst hi;exact h3
  |3,hi=>simp at hi;subst hi;exact h4
  |i+4,hi=>simp at hi
 ·cases e with
  |outgrown=>exact hp.elim
  |panicked ch=>
   obtain⟨_,_,_,_,hT,_⟩:=hp
   rcases hT with⟨_,_,he,_⟩|⟨_,_,he,_,hf⟩
   ·cases he
   ·exact hf.elim
  |returned u=>
   obtain⟨v,H',G',hT,hV,_,hx⟩:=hp
   rcases hT with⟨v',H'',he,_,hv⟩|⟨_,_,he,_⟩
   ·cases he
    subst hv
    obtain rfl:=hV.sc_inv
    exact⟨rfl,hx.os,hx.tape,hx.output,hx.size,fun k hk=>hx.block k (by simp[gOf,hk])⟩
   ·cases he
end Go.Abs.Tz
