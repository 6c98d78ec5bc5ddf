/- Part of the proof that the law CustomStepsAsSpecified returns true for every input. Conditions: none. -/
import Derived.Test.YtghfbggphgpjgaaGreatDoorPartV
import Derived.Test.YtghfbggphgpjgaaGreatDoorPartI
import Derived.Test.YtghfbggphgpjgaaGreatDoorPartG
namespace Go.Abs.Tz
open Go Go.Abs Go.Proofs
set_option maxRecDepth 20000
set_option linter.unusedSimpArgs false
attribute [local simp ↓] yC yB jT jS yf uO zu zG jR uB vl vm yD yF yG yE jY j6 j9 jZ ga gc j7 j8 j0 jW jU jX jV vj vh vk vi yy yw yz yx yK yI yJ jj z8 ge zw zU yi vn vo yN yP yO yL yM yZ gh gq gv gp gt gu g7 g6 gC gE jB jy jM jP jz jH jL jK jJ jI jF ju jv jw jx jN jD jE jq jO jQ jA jC jG jr gI gD gY ya gF gS gW gV gU gT gO gz g0 gM gN gw g9 yb gG gK gQ gx yd g8 gy yc gL gH gJ gA gZ gi gk gj yT yW yS yU yV qq uG
attribute [local simp] faL fdL iaL ixL qS zm ze eqK eqL qX zE uA yQ vg y5 y7 y9 vc ve vf y6 vb y8 vd zM LV.cells LV.whole qq uQ gg gf stL zN ui uI qa.alloc yg ye yh yu yt yr yq yp yo yn ym yk yj qe uD
def qeI(x:qv)(k:PK):Bool:=z1 x.pred k.1||(qK x.pred k.1&&decide (x.args<k.2))
def wv:List qv->PK->Nat
 |[],_=>0
 |x::r,k=>if qeI x k then wv r k+1 else 0
def uT(A:List qv)(k:PK):List qv:=A.take (wv A k)++[⟨k.1,k.2,0⟩]++A.drop (wv A k)
def wV(A:List qv)(a:qd):Prop:=0<=uU A (ofA a) 0
instance (A:List qv) (a:qd):Decidable (wV A a):=by unfold wV;infer_instance
def uR(A:List qv)(a:qd):List qv:=if wV A a then A else uT A (ofA a)
theorem qow:∀(A:List qv)(k:PK),wv A k<=A.length
 |[],_=>Nat.le_refl _
 |x::r,k=>by
  have:=qow r k
  simp only[wv,List.length_cons]
  split<;>omega
theorem qig(A:List qv)(k:PK):(uT A k).length=A.length+1:=by
 have:=qow A k
 unfold uT
 simp
 omega
theorem qvy(A:List qv)(a:qd):(uR A a).length<=A.length+1/\A.length<=(uR A a).length:=by
 unfold uR
 split
 ·omega
 ·rw[qig];omega
theorem qlc:∀(aa:List qd)(A:List qv),(aa.foldl uR A).length<=A.length+aa.length/\A.length<=(aa.foldl uR A).length
 |[],A=>by simp
 |a::r,A=>by
  have h1:=qlc r (uR A a)
  have h2:=qvy A a
  rw[List.foldl_cons,List.length_cons]
  omega
theorem qfF(A:List qv):(A.map qH).all (fun e=>e.cells.length==3)=true:=by
 rw[List.all_map,List.all_eq_true]
 intro x _
 rfl
inductive RepO (H:qa) (A:List qv):LV->List (Nat×qc)->Nat->Prop
 |sl (own:Own) (n:Nat):H.next<=n->RepO H A (.sl (A.map qH) own) H.objs n
 |asl (o n:Nat):H.next<=o->o<n->RepO H A (.asl o 0 A.length) ((o,qL A)::H.objs) n
inductive qfq (H:qa):List qv->LV->List (Nat×qc)->Nat->Prop
 |nil (n:Nat):H.next<=n->qfq H [] Nl H.objs n
 |asl (A:List qv) (o n:Nat):H.next<=o->o<n->qfq H A (.asl o 0 A.length) ((o,qL A)::H.objs) n
theorem qyJ{H:qa}(hH:H.Ok){o:Nat}(ho:H.next<=o):wa o H.objs=H.objs:=by
 have go:∀(l:List (Nat×qc))(n:Nat),qx l n->n<=o->wa o l=l:=by
  intro l
  induction l with
  |nil=>intro n _ _;rfl
  |cons e l ih=>
   obtain⟨i,x⟩:=e
   intro n hd hn
   have h1:i<n:=hd.1
   simp only[wa]
   rw[if_neg (by omega),ih i hd.2 (by omega)]
 exact go _ _ hH ho
theorem qcH{H:qa}(hH:H.Ok){A B:List qv}{v:LV}{ob:List (Nat×qc)}{n:Nat}(h:qfq H A v ob n)(hl:A.length+B.length<=2^20):
  ∃v' ob' n',(∀ow,qck ⟨ob,n⟩ 3 v (.sl (B.map qH) ow)=some (v',⟨ob',n'⟩))/\qfq H (A++B) v' ob' n'/\n<=n':=by
 have hrow:∀ow,qcS ⟨ob,n⟩ 3 (.sl (B.map qH) ow)=some (B.flatMap zc,B.length):=by
  intro ow
  unfold qcS
  simp only
  rw[qfF,if_pos rfl]
  simp[List.flatMap_map,LV.cells]
 cases hB:B with
 |nil=>
  subst hB
  refine⟨v,ob,n,fun ow=>?_,by rw[List.append_nil];exact h,Nat.le_refl _⟩
  unfold qck
  rw[hrow]
  cases h with
  |nil=>rfl
  |asl _ o _ h1 h2=>
   have h3:(A.flatMap zc).length=A.length*3:=qdc qaY A
   have:qaf ⟨(o,qL A)::H.objs,n⟩ 3 (.asl o 0 A.length)=some ((A.flatMap zc).take (A.length*3),qa.del ⟨(o,qL A)::H.objs,n⟩ o,A.length):=by
    simp only[qaf,look,if_true]
    rw[if_pos ⟨trivial,by rw[h3];exact Nat.le_refl _⟩]
   rw[this]
   rfl
 |cons b B'=>
  rw[<-hB]
  have hpos:0<B.length:=by rw[hB];simp
  cases h with
  |nil _ h1=>
   refine⟨.asl n 0 B.length,(n,qL B)::H.objs,n+1,fun ow=>?_,by rw[List.nil_append];exact .asl B n _ h1 (Nat.lt_succ_self _),Nat.le_succ _⟩
   unfold qck
   rw[hrow,show qaf ⟨H.objs,n⟩ 3 Nl=some ([],⟨H.objs,n⟩,0) from rfl]
   simp only[List.length_nil,Nat.zero_add]at hl ⊢
   rw[if_neg (by omega),if_pos ⟨by omega,by omega⟩]
   rfl
  |asl _ o _ h1 h2=>
   have h3:(A.flatMap zc).length=A.length*3:=qdc qaY A
   have:qaf ⟨(o,qL A)::H.objs,n⟩ 3 (.asl o 0 A.length)=some (A.flatMap zc,⟨H.objs,n⟩,A.length):=by
    simp only[qaf,look,if_true]
    rw[if_pos ⟨trivial,by rw[h3];exact Nat.le_refl _⟩,<-h3,List.take_length]
    simp[qa.del,wa,qyJ hH h1]
   refine⟨.asl n 0 (A.length+B.length),(n,qL (A++B))::H.objs,n+1,fun ow=>?_,?_,Nat.le_succ _⟩
   ·unfold qck
    rw[hrow,this]
    simp only
    rw[if_neg (by omega),if_pos ⟨by omega,by omega⟩]
    simp[qa.alloc,List.flatMap_append]
   ·rw[<-List.length_append]
    exact .asl (A++B) n _ (by omega) (Nat.lt_succ_self _)
structure NNP2 where
 i:Nat
 n:Nat
 a:List qv
 v:LV
 ob:List (Nat×qc)
def l72b:qr:=match qbo.body with
 |.seq _ (.seq _ (.seq _ (.seq _ (.seq x _))))=>x
 |_=>.bad
theorem qfq.toO{H:qa}{A:List qv}{v:LV}{ob:List (Nat×qc)}{n:Nat}(h:qfq H A v ob n)(hne:A≠[]):RepO H A v ob n/\∃o,v=.asl o 0 A.length:=by
 cases h with
 |nil=>exact absurd rfl hne
 |asl _ o _ h1 h2=>exact⟨.asl o _ h1 h2,o,rfl⟩
theorem wj{o:Option (LV×qa)}{k:HP}{v:LV}{H:qa}(h:o=some (v,H))(hk:k v H):eP o k:=⟨v,H,h,hk⟩
theorem qcq{H:qa}{A B:List qv}{own:Own}{ob:List (Nat×qc)}{n:Nat}(hl:A.length+B.length<=2^20)(h:vS H 3 A.length own ob n):
  ∃own' ob' n',(∀ow,apL ⟨ob,n⟩ 3 (.sl (A.map qH) own) (.sl (B.map qH) ow)=some (.sl ((A++B).map qH) own',⟨ob',n'⟩))/\vS H 3 (A++B).length own' ob' n'/\n<=n':=by
 rcases h with⟨rfl,rfl,h⟩|⟨t,rfl,h1,h2,rfl⟩
 ·refine⟨.tok n,(n,.tok (A++B).length 3)::H.objs,n+1,fun ow=>?_,.inr ⟨n,rfl,h,Nat.lt_succ_self _,rfl⟩,Nat.le_succ _⟩
  unfold apL
  simp only
  rw[qfF,qfF]
  simp only[Bool.and_self,if_true,List.length_map]
  rw[if_pos ⟨by omega,by omega,rfl⟩]
  simp[qa.alloc]
 ·refine⟨.tok t,(t,.tok (A++B).length 3)::H.objs,n,fun ow=>?_,.inr ⟨t,rfl,h1,h2,rfl⟩,Nat.le_refl _⟩
  have hcan:vE ⟨(t,.tok A.length 3)::H.objs,n⟩ 3 (.tok t) A.length=true:=by simp[vE,look]
  unfold apL
  simp only
  rw[qfF,qfF]
  simp only[Bool.and_self,if_true,List.length_map]
  rw[if_pos ⟨by omega,by omega,hcan⟩]
  simp[qa.put,qy]
theorem t_ins(aa:List qd)(ownA:Own)(haa:aa≠[])(hl:aa.length<2^18)(H:qa):
  lP E0 F0 l72b (.nd .bot (.nd .bot (.nd (.sl (aa.map qg) ownA) .nil .nil) .nil) (.nd .bot .nil (.nd (Nl) .nil .nil))) H (fun e t' H'=>e=.normal/\∃o n,H.next<=o/\o<n/\FT.Le (.nd .bot .nil (.nd .bot .nil (.nd (.asl o 0 (aa.foldl uR []).length) .nil .nil))) t'/\HWk H' ⟨(o,qL (aa.foldl uR []))::H.objs,n⟩/\(H'.Ok->qa.Ok ⟨(o,qL (aa.foldl uR []))::H.objs,n⟩)):=by
 refine qgk fun hH=>ur ?_
 simp(disch:=omega)[l72b,qbo]
 obtain⟨R,hR⟩:∃R,aa.foldl uR []=R:=⟨_,rfl⟩
 rw[hR]
 refine qB (σ:=NNP2) (fun q=>(.nd .bot (.nd .bot (.nd (.sl (aa.map qg) ownA) (.nd (.int q.i) .nil .nil) .nil) .nil) (.nd .bot .nil (.nd (q.v) .nil .nil)))) (fun q=>⟨q.ob,q.n⟩) (fun q=>aa.length - q.i)
  (fun q=>RepO H q.a q.v q.ob q.n/\q.i<=aa.length/\q.a.length<=q.i/\(aa.drop q.i).foldl uR q.a=R/\((∃own,q.v=.sl (q.a.map qH) own/\∃a∈aa.drop q.i,¬wV q.a a)\/((∃o,q.v=.asl o 0 q.a.length)/\∀a∈aa.drop q.i,wV q.a a)))
  ⟨0,H.next,[],Nl,H.objs⟩ ⟨.sl .full _ (Nat.le_refl _),Nat.zero_le _,Nat.le_refl _,hR,.inl ⟨.full,rfl,aa.head haa,List.head_mem haa,by unfold wV uU;omega⟩⟩ (by simp[FT.Le,Wk]) ⟨HWk.refl _,fun h=>h⟩ ?_
 rintro⟨i,n,A,v,ob⟩ ⟨hr,hi,hAi,he,hm⟩ hok
 dsimp only at hr hi hAi he hm hok
 have hnn:H.next<=n:=by cases hr<;>omega
 by_cases hlt:i<aa.length
 case neg=>
  have hd:aa.drop i=[]:=List.drop_eq_nil_of_le (by omega)
  rw[hd]at he hm
  simp only[List.foldl_nil]at he
  subst he
  rcases hm with⟨_,_,a,ha,_⟩|⟨⟨o,rfl⟩,_⟩
  ·cases ha
  cases hr with
  |asl _ _ h1 h2=>
   simp(disch:=omega)[hlt]
   exact⟨o,h1,n,h2,by simp[FT.Le,Wk],HWk.refl _,fun h=>h⟩
 rw[List.drop_eq_getElem_cons hlt]at he hm
 rw[List.foldl_cons]at he
 rcases hm with⟨own,rfl,hex⟩|⟨⟨o,rfl⟩,hall⟩
 case inr=>
  have hf:wV A aa[i]:=hall _ List.mem_cons_self
  have hp:uR A aa[i]=A:=by unfold uR;rw[if_pos hf]
  rw[hp]at he
  cases hr with
  |asl _ _ h1 h2=>
   simp(disch:=omega)[hlt]
   refine qmT A o _ n (by simp[look]) aa[i] (by omega) fun n1 hn1=>?_
   have hf':(0:Int)<=uU A (ofA aa[i]) 0:=hf
   simp(disch:=omega)[hf',qk (show i<2^62 by omega)]
   exact⟨⟨i+1,n1,A,.asl o 0 A.length,(o,qL A)::H.objs⟩,by dsimp only;omega,⟨.asl o n1 h1 (by omega),by dsimp only;omega,by dsimp only;omega,he,.inr ⟨⟨o,rfl⟩,fun a ha=>hall a (List.mem_cons_of_mem _ ha)⟩⟩,by simp[FT.Le,Wk],HWk.refl _,fun h=>h⟩
 have hob:ob=H.objs:=by cases hr;rfl
 subst hob
 simp(disch:=omega)[hlt]
 refine(qmU A own aa[i] (by omega)).go fun n1 hn1=>?_
 by_cases hf:wV A aa[i]
 ·have hf':(0:Int)<=uU A (ofA aa[i]) 0:=hf
  have hp:uR A aa[i]=A:=by unfold uR;rw[if_pos hf]
  rw[hp]at he
  simp(disch:=omega)[hf',qk (show i<2^62 by omega)]
  obtain⟨a,ha,hna⟩:=hex
  refine⟨⟨i+1,n1,A,.sl (A.map qH) own,H.objs⟩,by dsimp only;omega,⟨.sl own n1 (by omega),by dsimp only;omega,by dsimp only;omega,he,.inl ⟨⟨own,rfl⟩,a,?_,hna⟩⟩,by simp[FT.Le,Wk],HWk.refl _,fun h=>h⟩
  rcases List.mem_cons.1 ha with rfl|ha
  ·exact absurd hf hna
  ·exact ha
 have hf':¬(0:Int)<=uU A (ofA aa[i]) 0:=hf
 have hp:uR A aa[i]=uT A (ofA aa[i]):=by unfold uR;rw[if_neg hf]
 rw[hp]at he
 simp(disch:=omega)[hf']
 refine qB (σ:=NN) (fun q=>(.nd .bot (.nd .bot (.nd (.sl (aa.map qg) ownA) (.nd (.int i) .nil .nil) .nil) .nil) (.nd .bot (.nd .bot (.nd (.int q.i) .nil .nil) .nil) (.nd (.sl (A.map qH) own) .nil .nil)))) (fun q=>⟨H.objs,q.n⟩) (fun q=>A.length - q.i)
  (fun q=>n1<=q.n/\q.i<=A.length/\q.i+wv (A.drop q.i) (ofA aa[i])=wv A (ofA aa[i])) ⟨0,n1⟩ ⟨Nat.le_refl _,Nat.zero_le _,by simp⟩ (by simp[FT.Le,Wk]) ⟨HWk.refl _,fun h=>h⟩ ?_
 rintro⟨j,n2⟩ ⟨hn2,hj,hpos⟩ hok2
 simp only at hn2 hj hpos
 by_cases hlt2:j<A.length
 case neg=>
  have hjp:wv A (ofA aa[i])=j:=by
   rw[List.drop_eq_nil_of_le (by omega)]at hpos
   simpa [wv] using hpos.symm
  have hDz:(A.map qH).drop j=[]:=List.drop_eq_nil_of_le (by rw[List.length_map];omega)
  simp(disch:=omega)[hlt,hlt2]
  simp(disch:=omega)[hj]
  have hTl:(A.take j).map qH=(A.map qH).take j:=List.map_take
  have hDl:(A.drop j).map qH=(A.map qH).drop j:=List.map_drop
  obtain⟨S0,hS0⟩:∃S0:qv,(⟨aa[i].pred,aa[i].args.length,0⟩:qv)=S0:=⟨_,rfl⟩
  have hIns:uT A (ofA aa[i])=A.take j++[S0]++A.drop j:=by rw[<-hjp,<-hS0];rfl
  have hSL:[S0].map qH=[.agg [.str aa[i].pred,.int aa[i].args.length,.int 0]]:=by rw[<-hS0];rfl
  have hb1:(A.take j).length<=2^18:=by rw[List.length_take];omega
  have hb2:(A.take j++[S0]).length<=2^18+1:=by rw[List.length_append];simp only[List.length_cons,List.length_nil];omega
  have hb3:(A.drop j).length<=2^18:=by rw[List.length_drop];omega
  have hlen:=qig A (ofA aa[i])
  have hne:uT A (ofA aa[i])≠[]:=fun e=>by rw[e]at hlen;simp at hlen
  by_cases hlast:∀a∈aa.drop (i+1),wV (uT A (ofA aa[i])) a
  ·obtain⟨v1,ob1,m1,e1,r1,q1⟩:=qcH hH (.nil n2 (by omega)) (B:=A.take j) (by simp only[List.length_nil];omega)
   obtain⟨v2,ob2,m2,e2,r2,q2⟩:=qcH hH r1 (B:=[S0]) (by rw[List.nil_append];simp only[List.length_cons,List.length_nil];omega)
   obtain⟨v3,ob3,m3,e3,r3,q3⟩:=qcH hH r2 (B:=A.drop j) (by rw[List.nil_append];omega)
   rw[List.nil_append,<-hIns]at r3
   obtain⟨r4,o4,h4⟩:=r3.toO hne
   rw[hTl]at e1
   rw[hSL]at e2
   rw[hDl]at e3
   refine qbk ?_
   simp(disch:=omega)
   refine wj (v:=v1) (H:=⟨ob1,m1⟩) (by simpa [hlt2] using e1 _) ?_
   try simp(disch:=omega)
   refine qbk ?_
   simp(disch:=omega)
   refine wj (v:=v2) (H:=⟨ob2,m2⟩) (by simpa using e2 _) ?_
   try simp(disch:=omega)
   refine qbk ?_
   simp(disch:=omega)
   refine wj (v:=v3) (H:=⟨ob3,m3⟩) (by simpa [hlt2,hDz] using e3 _) ?_
   simp(disch:=omega)[qk (show i<2^62 by omega)]
   exact⟨⟨i+1,m3,uT A (ofA aa[i]),v3,ob3⟩,by dsimp only;omega,⟨r4,by dsimp only;omega,by dsimp only;omega,he,.inr ⟨⟨o4,h4⟩,hlast⟩⟩,by simp[FT.Le,Wk],HWk.refl _,fun h=>h⟩
  ·obtain⟨w1,ob1,m1,e1,r1,q1⟩:=qcq (H:=H) (A:=[]) (B:=A.take j) (own:=.full) (ob:=H.objs) (n:=n2) (by simp only[List.length_nil];omega) (.inl ⟨rfl,rfl,by omega⟩)
   obtain⟨w2,ob2,m2,e2,r2,q2⟩:=qcq (B:=[S0]) (by rw[List.nil_append];simp only[List.length_cons,List.length_nil];omega) r1
   obtain⟨w3,ob3,m3,e3,r3,q3⟩:=qcq (B:=A.drop j) (by rw[List.nil_append];omega) r2
   rw[List.nil_append,<-hIns]at r3 e3
   rw[List.nil_append]at e1 e2
   obtain⟨X1,hX1⟩:∃X1,A.take j=X1:=⟨_,rfl⟩
   obtain⟨X2,hX2⟩:∃X2,A.take j++[S0]=X2:=⟨_,rfl⟩
   obtain⟨X3,hX3⟩:∃X3,uT A (ofA aa[i])=X3:=⟨_,rfl⟩
   have e1':∀ow,apL ⟨H.objs,n2⟩ 3 Nl (.sl ((A.map qH).take j) ow)=some (.sl (X1.map qH) w1,⟨ob1,m1⟩):=fun ow=>by rw[<-hTl,<-hX1];exact e1 ow
   have e2':∀ow,apL ⟨ob1,m1⟩ 3 (.sl (X1.map qH) w1) (.sl [.agg [.str aa[i].pred,.int aa[i].args.length,.int 0]] ow)=some (.sl (X2.map qH) w2,⟨ob2,m2⟩):=fun ow=>by rw[<-hSL,<-hX1,<-hX2];exact e2 ow
   have e3':∀ow,apL ⟨ob2,m2⟩ 3 (.sl (X2.map qH) w2) (.sl ((A.map qH).drop j) ow)=some (.sl (X3.map qH) w3,⟨ob3,m3⟩):=fun ow=>by rw[<-hDl,<-hX2,<-hX3];exact e3 ow
   rw[hX3]at he r3 hlast hlen
   have hnl:∃a,a∈aa.drop (i+1)/\¬wV X3 a:=by simpa using hlast
   have hfg:HWk ⟨ob3,m3⟩ ⟨H.objs,m3⟩:=⟨Nat.le_refl _,fun q x hx=>by
    rcases r3 with⟨_,rfl,_⟩|⟨t,_,g1,g2,rfl⟩
    ·exact hx
    ·have:=hH.look hx
     simp only[look]
     rw[if_neg (by omega)]
     exact hx⟩
   refine zF ?_
   simp(disch:=omega)
   refine wj (v:=.sl (X1.map qH) w1) (H:=⟨ob1,m1⟩) (by simpa [hlt2] using e1' _) ?_
   try simp(disch:=omega)
   refine zF ?_
   simp(disch:=omega)
   refine wj (v:=.sl (X2.map qH) w2) (H:=⟨ob2,m2⟩) (by simpa using e2' _) ?_
   try simp(disch:=omega)
   refine zF ?_
   simp(disch:=omega)
   refine wj (v:=.sl (X3.map qH) w3) (H:=⟨ob3,m3⟩) (by simpa [hlt2,hDz] using e3' _) ?_
   simp(disch:=omega)[qk (show i<2^62 by omega)]
   exact⟨⟨i+1,m3,X3,.sl (X3.map qH) w3,H.objs⟩,by dsimp only;omega,⟨.sl w3 m3 (by omega),by dsimp only;omega,by dsimp only;omega,he,.inl ⟨⟨w3,rfl⟩,hnl⟩⟩,by simp[FT.Le,Wk],hfg,fun _=>qx.mono hH (by dsimp only;omega)⟩
 rw[List.drop_eq_getElem_cons hlt2]at hpos
 have em:qeI A[j] (ofA aa[i])=(z1 A[j].pred aa[i].pred||(qK A[j].pred aa[i].pred&&decide (A[j].args<aa[i].args.length))):=rfl
 have hDz:((A.map qH).drop j).take (A.length - j)=(A.map qH).drop j:=List.take_of_length_le (by rw[List.length_drop,List.length_map];omega)
 simp only[wv]at hpos
 cases h1:z1 A[j].pred aa[i].pred
 ·cases h2:qK A[j].pred aa[i].pred
  ·have hjp:wv A (ofA aa[i])=j:=by simp[em,h1,h2]at hpos;omega
   simp(disch:=omega)[hlt,hlt2,h1,h2]
   simp(disch:=omega)[hj]
   have hTl:(A.take j).map qH=(A.map qH).take j:=List.map_take
   have hDl:(A.drop j).map qH=(A.map qH).drop j:=List.map_drop
   obtain⟨S0,hS0⟩:∃S0:qv,(⟨aa[i].pred,aa[i].args.length,0⟩:qv)=S0:=⟨_,rfl⟩
   have hIns:uT A (ofA aa[i])=A.take j++[S0]++A.drop j:=by rw[<-hjp,<-hS0];rfl
   have hSL:[S0].map qH=[.agg [.str aa[i].pred,.int aa[i].args.length,.int 0]]:=by rw[<-hS0];rfl
   have hb1:(A.take j).length<=2^18:=by rw[List.length_take];omega
   have hb2:(A.take j++[S0]).length<=2^18+1:=by rw[List.length_append];simp only[List.length_cons,List.length_nil];omega
   have hb3:(A.drop j).length<=2^18:=by rw[List.length_drop];omega
   have hlen:=qig A (ofA aa[i])
   have hne:uT A (ofA aa[i])≠[]:=fun e=>by rw[e]at hlen;simp at hlen
   by_cases hlast:∀a∈aa.drop (i+1),wV (uT A (ofA aa[i])) a
   ·obtain⟨v1,ob1,m1,e1,r1,q1⟩:=qcH hH (.nil n2 (by omega)) (B:=A.take j) (by simp only[List.length_nil];omega)
    obtain⟨v2,ob2,m2,e2,r2,q2⟩:=qcH hH r1 (B:=[S0]) (by rw[List.nil_append];simp only[List.length_cons,List.length_nil];omega)
    obtain⟨v3,ob3,m3,e3,r3,q3⟩:=qcH hH r2 (B:=A.drop j) (by rw[List.nil_append];omega)
    rw[List.nil_append,<-hIns]at r3
    obtain⟨r4,o4,h4⟩:=r3.toO hne
    rw[hTl]at e1
    rw[hSL]at e2
    rw[hDl]at e3
    refine qbk ?_
    simp(disch:=omega)
    refine wj (v:=v1) (H:=⟨ob1,m1⟩) (by simpa [hlt2] using e1 _) ?_
    try simp(disch:=omega)
    refine qbk ?_
    simp(disch:=omega)
    refine wj (v:=v2) (H:=⟨ob2,m2⟩) (by simpa using e2 _) ?_
    try simp(disch:=omega)
    refine qbk ?_
    simp(disch:=omega)
    refine wj (v:=v3) (H:=⟨ob3,m3⟩) (by simpa [hlt2,hDz] using e3 _) ?_
    simp(disch:=omega)[qk (show i<2^62 by omega)]
    exact⟨⟨i+1,m3,uT A (ofA aa[i]),v3,ob3⟩,by dsimp only;omega,⟨r4,by dsimp only;omega,by dsimp only;omega,he,.inr ⟨⟨o4,h4⟩,hlast⟩⟩,by simp[FT.Le,Wk],HWk.refl _,fun h=>h⟩
   ·obtain⟨w1,ob1,m1,e1,r1,q1⟩:=qcq (H:=H) (A:=[]) (B:=A.take j) (own:=.full) (ob:=H.objs) (n:=n2) (by simp only[List.length_nil];omega) (.inl ⟨rfl,rfl,by omega⟩)
    obtain⟨w2,ob2,m2,e2,r2,q2⟩:=qcq (B:=[S0]) (by rw[List.nil_append];simp only[List.length_cons,List.length_nil];omega) r1
    obtain⟨w3,ob3,m3,e3,r3,q3⟩:=qcq (B:=A.drop j) (by rw[List.nil_append];omega) r2
    rw[List.nil_append,<-hIns]at r3 e3
    rw[List.nil_append]at e1 e2
    obtain⟨X1,hX1⟩:∃X1,A.take j=X1:=⟨_,rfl⟩
    obtain⟨X2,hX2⟩:∃X2,A.take j++[S0]=X2:=⟨_,rfl⟩
    obtain⟨X3,hX3⟩:∃X3,uT A (ofA aa[i])=X3:=⟨_,rfl⟩
    have e1':∀ow,apL ⟨H.objs,n2⟩ 3 Nl (.sl ((A.map qH).take j) ow)=some (.sl (X1.map qH) w1,⟨ob1,m1⟩):=fun ow=>by rw[<-hTl,<-hX1];exact e1 ow
    have e2':∀ow,apL ⟨ob1,m1⟩ 3 (.sl (X1.map qH) w1) (.sl [.agg [.str aa[i].pred,.int aa[i].args.length,.int 0]] ow)=some (.sl (X2.map qH) w2,⟨ob2,m2⟩):=fun ow=>by rw[<-hSL,<-hX1,<-hX2];exact e2 ow
    have e3':∀ow,apL ⟨ob2,m2⟩ 3 (.sl (X2.map qH) w2) (.sl ((A.map qH).drop j) ow)=some (.sl (X3.map qH) w3,⟨ob3,m3⟩):=fun ow=>by rw[<-hDl,<-hX2,<-hX3];exact e3 ow
    rw[hX3]at he r3 hlast hlen
    have hnl:∃a,a∈aa.drop (i+1)/\¬wV X3 a:=by simpa using hlast
    have hfg:HWk ⟨ob3,m3⟩ ⟨H.objs,m3⟩:=⟨Nat.le_refl _,fun q x hx=>by
     rcases r3 with⟨_,rfl,_⟩|⟨t,_,g1,g2,rfl⟩
     ·exact hx
     ·have:=hH.look hx
      simp only[look]
      rw[if_neg (by omega)]
      exact hx⟩
    refine zF ?_
    simp(disch:=omega)
    refine wj (v:=.sl (X1.map qH) w1) (H:=⟨ob1,m1⟩) (by simpa [hlt2] using e1' _) ?_
    try simp(disch:=omega)
    refine zF ?_
    simp(disch:=omega)
    refine wj (v:=.sl (X2.map qH) w2) (H:=⟨ob2,m2⟩) (by simpa using e2' _) ?_
    try simp(disch:=omega)
    refine zF ?_
    simp(disch:=omega)
    refine wj (v:=.sl (X3.map qH) w3) (H:=⟨ob3,m3⟩) (by simpa [hlt2,hDz] using e3' _) ?_
    simp(disch:=omega)[qk (show i<2^62 by omega)]
    exact⟨⟨i+1,m3,X3,.sl (X3.map qH) w3,H.objs⟩,by dsimp only;omega,⟨.sl w3 m3 (by omega),by dsimp only;omega,by dsimp only;omega,he,.inl ⟨⟨w3,rfl⟩,hnl⟩⟩,by simp[FT.Le,Wk],hfg,fun _=>qx.mono hH (by dsimp only;omega)⟩
  ·by_cases h3:A[j].args<aa[i].args.length
   ·have hq:j+1+wv (A.drop (j+1)) (ofA aa[i])=wv A (ofA aa[i]):=by simp[em,h1,h2,h3]at hpos;omega
    simp(disch:=omega)[hlt,hlt2,h1,h2,h3,qk (show j<2^62 by omega)]
    exact⟨⟨j+1,n2⟩,by dsimp only;omega,⟨by dsimp only;omega,by dsimp only;omega,hq⟩,by simp[FT.Le,Wk],HWk.refl _,fun h=>h⟩
   ·have hjp:wv A (ofA aa[i])=j:=by simp[em,h1,h2,h3]at hpos;omega
    simp(disch:=omega)[hlt,hlt2,h1,h2,h3]
    simp(disch:=omega)[hj]
    have hTl:(A.take j).map qH=(A.map qH).take j:=List.map_take
    have hDl:(A.drop j).map qH=(A.map qH).drop j:=List.map_drop
    obtain⟨S0,hS0⟩:∃S0:qv,(⟨aa[i].pred,aa[i].args.length,0⟩:qv)=S0:=⟨_,rfl⟩
    have hIns:uT A (ofA aa[i])=A.take j++[S0]++A.drop j:=by rw[<-hjp,<-hS0];rfl
    have hSL:[S0].map qH=[.agg [.str aa[i].pred,.int aa[i].args.length,.int 0]]:=by rw[<-hS0];rfl
    have hb1:(A.take j).length<=2^18:=by rw[List.length_take];omega
    have hb2:(A.take j++[S0]).length<=2^18+1:=by rw[List.length_append];simp only[List.length_cons,List.length_nil];omega
    have hb3:(A.drop j).length<=2^18:=by rw[List.length_drop];omega
    have hlen:=qig A (ofA aa[i])
    have hne:uT A (ofA aa[i])≠[]:=fun e=>by rw[e]at hlen;simp at hlen
    by_cases hlast:∀a∈aa.drop (i+1),wV (uT A (ofA aa[i])) a
    ·obtain⟨v1,ob1,m1,e1,r1,q1⟩:=qcH hH (.nil n2 (by omega)) (B:=A.take j) (by simp only[List.length_nil];omega)
     obtain⟨v2,ob2,m2,e2,r2,q2⟩:=qcH hH r1 (B:=[S0]) (by rw[List.nil_append];simp only[List.length_cons,List.length_nil];omega)
     obtain⟨v3,ob3,m3,e3,r3,q3⟩:=qcH hH r2 (B:=A.drop j) (by rw[List.nil_append];omega)
     rw[List.nil_append,<-hIns]at r3
     obtain⟨r4,o4,h4⟩:=r3.toO hne
     rw[hTl]at e1
     rw[hSL]at e2
     rw[hDl]at e3
     refine qbk ?_
     simp(disch:=omega)
     refine wj (v:=v1) (H:=⟨ob1,m1⟩) (by simpa [hlt2] using e1 _) ?_
     try simp(disch:=omega)
     refine qbk ?_
     simp(disch:=omega)
     refine wj (v:=v2) (H:=⟨ob2,m2⟩) (by simpa using e2 _) ?_
     try simp(disch:=omega)
     refine qbk ?_
     simp(disch:=omega)
     refine wj (v:=v3) (H:=⟨ob3,m3⟩) (by simpa [hlt2,hDz] using e3 _) ?_
     simp(disch:=omega)[qk (show i<2^62 by omega)]
     exact⟨⟨i+1,m3,uT A (ofA aa[i]),v3,ob3⟩,by dsimp only;omega,⟨r4,by dsimp only;omega,by dsimp only;omega,he,.inr ⟨⟨o4,h4⟩,hlast⟩⟩,by simp[FT.Le,Wk],HWk.refl _,fun h=>h⟩
    ·obtain⟨w1,ob1,m1,e1,r1,q1⟩:=qcq (H:=H) (A:=[]) (B:=A.take j) (own:=.full) (ob:=H.objs) (n:=n2) (by simp only[List.length_nil];omega) (.inl ⟨rfl,rfl,by omega⟩)
     obtain⟨w2,ob2,m2,e2,r2,q2⟩:=qcq (B:=[S0]) (by rw[List.nil_append];simp only[List.length_cons,List.length_nil];omega) r1
     obtain⟨w3,ob3,m3,e3,r3,q3⟩:=qcq (B:=A.drop j) (by rw[List.nil_append];omega) r2
     rw[List.nil_append,<-hIns]at r3 e3
     rw[List.nil_append]at e1 e2
     obtain⟨X1,hX1⟩:∃X1,A.take j=X1:=⟨_,rfl⟩
     obtain⟨X2,hX2⟩:∃X2,A.take j++[S0]=X2:=⟨_,rfl⟩
     obtain⟨X3,hX3⟩:∃X3,uT A (ofA aa[i])=X3:=⟨_,rfl⟩
     have e1':∀ow,apL ⟨H.objs,n2⟩ 3 Nl (.sl ((A.map qH).take j) ow)=some (.sl (X1.map qH) w1,⟨ob1,m1⟩):=fun ow=>by rw[<-hTl,<-hX1];exact e1 ow
     have e2':∀ow,apL ⟨ob1,m1⟩ 3 (.sl (X1.map qH) w1) (.sl [.agg [.str aa[i].pred,.int aa[i].args.length,.int 0]] ow)=some (.sl (X2.map qH) w2,⟨ob2,m2⟩):=fun ow=>by rw[<-hSL,<-hX1,<-hX2];exact e2 ow
     have e3':∀ow,apL ⟨ob2,m2⟩ 3 (.sl (X2.map qH) w2) (.sl ((A.map qH).drop j) ow)=some (.sl (X3.map qH) w3,⟨ob3,m3⟩):=fun ow=>by rw[<-hDl,<-hX2,<-hX3];exact e3 ow
     rw[hX3]at he r3 hlast hlen
     have hnl:∃a,a∈aa.drop (i+1)/\¬wV X3 a:=by simpa using hlast
     have hfg:HWk ⟨ob3,m3⟩ ⟨H.objs,m3⟩:=⟨Nat.le_refl _,fun q x hx=>by
      rcases r3 with⟨_,rfl,_⟩|⟨t,_,g1,g2,rfl⟩
      ·exact hx
      ·have:=hH.look hx
       simp only[look]
       rw[if_neg (by omega)]
       exact hx⟩
     refine zF ?_
     simp(disch:=omega)
     refine wj (v:=.sl (X1.map qH) w1) (H:=⟨ob1,m1⟩) (by simpa [hlt2] using e1' _) ?_
     try simp(disch:=omega)
     refine zF ?_
     simp(disch:=omega)
     refine wj (v:=.sl (X2.map qH) w2) (H:=⟨ob2,m2⟩) (by simpa using e2' _) ?_
     try simp(disch:=omega)
     refine zF ?_
     simp(disch:=omega)
     refine wj (v:=.sl (X3.map qH) w3) (H:=⟨ob3,m3⟩) (by simpa [hlt2,hDz] using e3' _) ?_
     simp(disch:=omega)[qk (show i<2^62 by omega)]
     exact⟨⟨i+1,m3,X3,.sl (X3.map qH) w3,H.objs⟩,by dsimp only;omega,⟨.sl w3 m3 (by omega),by dsimp only;omega,by dsimp only;omega,he,.inl ⟨⟨w3,rfl⟩,hnl⟩⟩,by simp[FT.Le,Wk],hfg,fun _=>qx.mono hH (by dsimp only;omega)⟩
 ·have hq:j+1+wv (A.drop (j+1)) (ofA aa[i])=wv A (ofA aa[i]):=by simp[em,h1]at hpos;omega
  simp(disch:=omega)[hlt,hlt2,h1,qk (show j<2^62 by omega)]
  exact⟨⟨j+1,n2⟩,by dsimp only;omega,⟨by dsimp only;omega,by dsimp only;omega,hq⟩,by simp[FT.Le,Wk],HWk.refl _,fun h=>h⟩
def qbb(l:List qf):List qv:=(vp l).foldl uR []
def p72(k:Nat):qr:=match k,qbo.body with
 |0,.seq x _=>x
 |1,.seq _ (.seq x _)=>x
 |2,.seq _ (.seq _ (.seq _ (.seq x _)))=>x
 |3,.seq _ (.seq _ (.seq _ (.seq _ (.seq _ x))))=>x
 |_,_=>.bad
theorem qzn:qbo.body=.seq (p72 0) (.seq (p72 1) (.seq l72a (.seq (p72 2) (.seq l72b (p72 3))))):=rfl
theorem qtp(l:List qf)(hne:l≠[])(hl:l.length<2^18)(hb:∀c∈l,c.body.length<2^18)(hA:(vp l).length<2^18)(H:qa){kv kp:HP}
  (hk:∀o n,H.next<=o->o<n->kv (.asl o 0 (qbb l).length) ⟨(o,qL (qbb l))::H.objs,n⟩):cP E0 F0 116 [qz l] H kv kp:=by
 refine qfi c116 (Nat.le_of_ble_eq_true rfl) fun hH=>?_
 rw[qzn]
 simp(disch:=omega)
 refine vB (ur ?_)
 simp(disch:=omega)[p72,qbo]
 refine vB (ur ?_)
 simp(disch:=omega)[p72,qbo]
 refine vA (t':=(.nd (qz l) (.nd .bot (.nd (Nl) .nil .nil) .nil) .nil)) (H':=H) (fun l h=>by cases h) (by simp[FT.Le,Wk]) (HWk.refl _) (fun h=>h) ?_
 refine vB (qgl (t_all l (by omega) (fun c hc=>by have:=hb c hc;omega) (by omega) H) ?_)
 rintro e t' H' ⟨rfl,own,n,hn,hle,hwk,hok⟩
 show lP E0 F0 (.seq (p72 2) (.seq l72b (p72 3))) t' H' _
 refine vA (fun l h=>by cases h) hle hwk hok ?_
 refine vB (ur ?_)
 simp(disch:=omega)[p72,qbo]
 have hnn:vp l≠[]:=by
  cases l with
  |nil=>exact absurd rfl hne
  |cons c r=>simp[vp,qci]
 refine vA (t':=(.nd .bot (.nd .bot (.nd (.sl ((vp l).map qg) own) .nil .nil) .nil) (.nd .bot .nil (.nd (Nl) .nil .nil)))) (H':=⟨H.objs,n⟩) (fun l h=>by cases h) (by simp[FT.Le,Wk]) (HWk.refl _) (fun h=>h) ?_
 refine vB (qgl (t_ins (vp l) own hnn hA ⟨H.objs,n⟩) ?_)
 rintro e t2 H2 ⟨rfl,o,n2,hn2,ho2,hle2,hwk2,hok2⟩
 show lP E0 F0 (p72 3) t2 H2 _
 refine vA (fun l h=>by cases h) hle2 hwk2 hok2 ?_
 refine ur ?_
 simp(disch:=omega)[p72,qbo,jj]
 exact keep (hk o n2 (by dsimp only at hn2;omega) ho2)
def qP(m:List (PK×Int)):List qv:=m.map fun e=>⟨e.1.1,e.1.2,e.2⟩
def uw(k:PK):List (PK×Int)->Nat
 |[]=>0
 |(j,_)::r=>if vD k j then 0 else uw k r+1
theorem qhU{x:qv}{k:PK}:qcw x k=true↔qbe x=k:=by
 obtain⟨p,a,v⟩:=x
 obtain⟨q,b⟩:=k
 simp[qcw,qbe,wH]
theorem qbr(m:List (PK×Int)):(qP m).length=m.length:=List.length_map ..
theorem qdL{k:PK}:∀{m:List (PK×Int)},k∈qA m->uw k m<m.length/\(∀i,uU (qP m) k i=i+uw k m)/\m[uw k m]? = some (k,qo m k)/\∀v,zn k v m=m.set (uw k m) (k,v)
 |[],h=>by cases h
 |(j,u)::r,h=>by
  by_cases hk:vD k j=true
  ·have e:=vC.1 hk
   subst e
   have hm:qcw ⟨k.1,k.2,u⟩ k=true:=qhU.2 rfl
   refine⟨by simp[uw,hk],fun i=>?_,by simp[uw,hk,qo,vQ],fun v=>by simp[uw,hk,zn]⟩
   show uU (⟨k.1,k.2,u⟩::qP r) k i=_
   simp[uU,hm,uw,hk]
  ·have hr:k∈qA r:=by
    rcases List.mem_cons.1 (show k∈j::qA r from h) with e|h
    ·exact absurd (vC.2 e) hk
    ·exact h
   obtain⟨a1,a2,a3,a4⟩:=qdL hr
   have hm:qcw ⟨j.1,j.2,u⟩ k=false:=by
    cases hb:qcw ⟨j.1,j.2,u⟩ k with
    |false=>rfl
    |true=>
     have e:j=k:=qhU.1 hb
     exact absurd (vC.2 e.symm) hk
   have hkf:vD k j=false:=by simpa using hk
   refine⟨by simp[uw,hkf];omega,fun i=>?_,?_,fun v=>by simp[uw,hkf,zn,a4 v]⟩
   ·show uU (⟨j.1,j.2,u⟩::qP r) k i=_
    simp only[uU,hm,uw,hkf,Bool.false_eq_true,if_false]
    rw[a2 (i+1)]
    omega
   ·simp only[uw,hkf,Bool.false_eq_true,if_false,List.getElem?_cons_succ,a3]
    simp[qo,vQ,hkf]
theorem qjt{m:List (PK×Int)}{i:Nat}(h:i<m.length):(qP m)[i]'(by rw[qbr];exact h)=⟨m[i].1.1,m[i].1.2,m[i].2⟩:=by simp[qP]
theorem quz(m:List (PK×Int))(i:Nat)(k:PK)(v:Int):qP (m.set i (k,v))=(qP m).set i ⟨k.1,k.2,v⟩:=by simp[qP,List.map_set]
theorem qwJ{m:List (PK×Int)}{k:PK}(hk:k∈qA m){o:Nat}{ob:List (Nat×qc)}{n:Nat}(hl:look o ob=some (qL (qP m))):qS ⟨ob,n⟩ none (.ptr o (uw k m*3+2))=some (.int (qo m k)):=by
 obtain⟨a1,a2,a3,a4⟩:=qdL hk
 have h:=ldA (n:=n) hl (j:=uw k m) (c:=2) (by rw[qbr];exact a1) (by omega)
 rw[h,qjt a1]
 rw[List.getElem?_eq_getElem a1]at a3
 have:=Option.some.inj a3
 rw[this]
 rfl
theorem qwK{m:List (PK×Int)}{k:PK}(hk:k∈qA m){o:Nat}{ob:List (Nat×qc)}{n:Nat}(hl:look o ob=some (qL (qP m))):iaL ⟨ob,n⟩ 3 (.asl o 0 m.length) (.int (uw k m:Int))=some (.ptr o (uw k m*3)):=
 iaA hl (qdL hk).1
theorem qxP(A:List qv){j:Nat}(hj:j<A.length)(v:Int):(A.flatMap zc).take (j*3+2)++[.int v]++(A.flatMap zc).drop (j*3+2+1)=(A.set j ⟨A[j].pred,A[j].args,v⟩).flatMap zc:=by
 rw[<-qqa qaY hj,List.take_add]
 have e:((A.flatMap zc).drop (j*3)).take 2=[.str A[j].pred,.int A[j].args]:=by
  have h:=qld qaY hj
  have:((A.flatMap zc).drop (j*3)).take 2=(((A.flatMap zc).drop (j*3)).take 3).take 2:=by rw[List.take_take];rfl
  rw[this,h]
  rfl
 rw[e]
 simp
theorem qwI{m:List (PK×Int)}{k:PK}(hk:k∈qA m)(v:Int){o:Nat}{ob:List (Nat×qc)}{n:Nat}(hl:look o ob=some (qL (qP m))):stL ⟨ob,n⟩ 1 (.ptr o (uw k m*3+2)) (.int v)=some ⟨qy o (qL (qP (zn k v m))) ob,n⟩:=by
 obtain⟨a1,a2,a3,a4⟩:=qdL hk
 have a1':uw k m<(qP m).length:=by rw[qbr];exact a1
 rw[a4 v,quz]
 have hfl:((qP m).flatMap zc).length=m.length*3:=by rw[qdc qaY,qbr]
 have hs:=qxP (qP m) a1' v
 have hg:(qP m)[uw k m].pred=k.1/\(qP m)[uw k m].args=k.2:=by
  rw[qjt a1]
  rw[List.getElem?_eq_getElem a1]at a3
  rw[Option.some.inj a3]
  exact⟨rfl,rfl⟩
 rw[hg.1,hg.2]at hs
 unfold stL
 simp only[hl]
 rw[if_pos ⟨rfl,rfl,by rw[hfl];omega⟩]
 show some (qa.put ⟨ob,n⟩ o (.arr 3 (((qP m).flatMap zc).take (uw k m*3+2)++[.int v]++((qP m).flatMap zc).drop (uw k m*3+2+1))))=_
 rw[hs]
 rfl
def qce(k:PK):List PK->Nat
 |[]=>0
 |j::r=>if vD k j then 0 else qce k r+1
theorem qgn(k:PK):∀m:List (PK×Int),uw k m=qce k (qA m)
 |[]=>rfl
 |(j,u)::r=>by
  show uw k ((j,u)::r)=qce k (j::qA r)
  simp only[uw,qce,qgn k r]
section
variable{m:List (PK×Int)}{V:List PK}{k:PK}(hV:qA m=V)(hk:k∈V){o n:Nat}{ob:List (Nat×qc)}(hl:look o ob=some (qL (qP m)))
include hV hk hl
theorem v_ld:qS ⟨ob,n⟩ none (.ptr o (qce k V*3+2))=some (.int (qo m k)):=by
 subst hV;rw[<-qgn];exact qwJ hk hl
theorem v_ia:iaL ⟨ob,n⟩ 3 (.asl o 0 V.length) (.int (qce k V:Int))=some (.ptr o (qce k V*3)):=by
 subst hV;rw[<-qgn,vV];exact qwK hk hl
theorem v_st(v:Int):stL ⟨ob,n⟩ 1 (.ptr o (qce k V*3+2)) (.int v)=some ⟨qy o (qL (qP (zn k v m))) ob,n⟩:=by
 subst hV;rw[<-qgn];exact qwI hk v hl
theorem qms{a:qd}(ha:ofA a=k)(hN:V.length<2^40){kv kp:HP}(hkv:∀n',n<=n'->kv (.int (qce k V:Int)) ⟨ob,n'⟩):cP E0 F0 34 [.asl o 0 V.length,qg a] ⟨ob,n⟩ kv kp:=by
 subst hV;subst ha
 have h:=qmT (qP m) o ob n hl a (by rw[qbr];rw[vV]at hN;exact hN) (kv:=kv) (kp:=kp) fun n' hn=>by
  rw[(qdL hk).2.1 0]
  have:=hkv n' hn
  rw[<-qgn]at this
  simpa using this
 rw[qbr]at h
 rw[vV]
 exact h
end
theorem InP.mono{m:List (PK×Int)}{N M:Int}(h:InP m N)(hle:N<=M):InP m M:=fun k=>⟨(h k).1,Int.le_trans (h k).2 hle⟩
theorem qAb{m:List (PK×Int)}{N:Int}(h0:∀k,0<=qo m k)(hN:0<=N)(h:m.any (fun e=>decide (N<e.2))=false):InP m N:=by
 intro k
 refine⟨h0 k,?_⟩
 by_cases hk:k∈qA m
 ·obtain⟨a1,_,a3,_⟩:=qdL hk
  have:=List.any_eq_false.1 h _ (List.mem_of_getElem? a3)
  simp only[decide_eq_true_eq]at this
  omega
 ·have:qo m k=0:=by
   have go:∀{m:List (PK×Int)},k∉qA m->vQ k m=none:=by
    intro m
    induction m with
    |nil=>intro _;rfl
    |cons e r ih=>
     obtain⟨j,u⟩:=e
     intro hn
     have h1:¬vD k j=true:=fun e=>hn (by rw[vC.1 e];exact List.mem_cons_self)
     simp only[vQ]
     rw[if_neg h1]
     exact ih fun hm=>hn (List.mem_cons_of_mem _ hm)
   unfold qo
   rw[go hk]
   rfl
  omega
theorem qzQ{α:Type}(p:α->Bool){l:List α}{i:Nat}(h:i<l.length):(l.drop i).any p=(p l[i]||(l.drop (i+1)).any p):=by
 rw[List.drop_eq_getElem_cons h,List.any_cons]
structure NNR where
 i:Nat
 n:Nat
 m:List (PK×Int)
 ch:Bool
theorem qtt(l:List qf)(hne:l≠[])(hl:l.length<2^18)(hb:∀c∈l,c.body.length<2^18)(hA:(vp l).length<2^18)(hkd:∀c∈l,∀x∈c.body,1<=x.kind)(m0:List (PK×Int))(hm0:qP m0=qbb l)(hz:∀k,qo m0 k=0)
  (hK:∀c∈l,∀k∈vx c,k∈qA m0) (R:Option (List (PK×Int))) (hR:qba l (m0.length+2) m0=R) (H:qa) {kv kp:HP} (hk1:R=none->∀n,H.next<=n->kv (.tup [Nl,.bool false]) ⟨H.objs,n⟩)
  (hk2:∀m,R=some m->∀o n,H.next<=o->o<n->kv (.tup [.asl o 0 m.length,.bool true]) ⟨(o,qL (qP m))::H.objs,n⟩):cP E0 F0 75 [qz l] H kv kp:=by
 refine zX c75 fun hH=>⟨Nat.le_of_ble_eq_true rfl,?_⟩
 simp(disch:=omega)[b75]
 refine qtp l hne hl hb hA H fun o n0 ho hn0=>?_
 obtain⟨V,hV⟩:∃V,qA m0=V:=⟨_,rfl⟩
 rw[hV]at hK
 have hlen0:m0.length=V.length:=by rw[<-hV,vV]
 have hNb:V.length<2^18:=by
  rw[<-hlen0,<-qbr,hm0]
  have:=(qlc (vp l) []).1
  unfold qbb
  simp only[List.length_nil]at this
  omega
 rw[show (qbb l).length=V.length by rw[<-hm0,qbr,hlen0],<-hm0]
 rw[hlen0]at hR
 have hVm:∀m:List (PK×Int),qA m=V->m.length=V.length:=fun m h=>by rw[<-h,vV]
 have hOk:∀m:List (PK×Int),∀n,o<n->qa.Ok ⟨(o,qL (qP m))::H.objs,n⟩:=fun m n hn=>⟨hn,qx.mono hH ho⟩
 have hbase:∀(m:List (PK×Int))(n:Nat),o<n->HWk ⟨(o,qL (qP m))::H.objs,n⟩ ⟨H.objs,n⟩/\(qa.Ok ⟨(o,qL (qP m))::H.objs,n⟩->qa.Ok ⟨H.objs,n⟩):=fun m n hn=>
  ⟨⟨Nat.le_refl _,fun i x hx=>by
   have:=hH.look hx
   simp only[look]
   rw[if_neg (by omega)]
   exact hx⟩,fun _=>qx.mono hH (by dsimp only;omega)⟩
 simp(disch:=omega)
 refine qB (σ:=NNP) (fun q=>(.nd (qz l) (.nd .bot (.nd (.bool false) .nil .nil) (.nd (.int q.i) .nil .nil)) (.nd (Nl) (.nd (.asl o 0 V.length) .nil .nil) .nil))) (fun q=>⟨(o,qL (qP q.m))::H.objs,q.n⟩) (fun q=>V.length+2 - q.i)
  (fun q=>n0<=q.n/\q.i<=V.length+2/\qA q.m=V/\InP q.m V.length/\qba l (V.length+2 - q.i) q.m=R) ⟨0,n0,m0⟩ ⟨Nat.le_refl _,Nat.zero_le _,hV,fun k=>by dsimp only;rw[hz k];omega,hR⟩ (by simp[FT.Le,Wk]) ⟨HWk.refl _,fun h=>h⟩ ?_
 rintro⟨r,n,m⟩ ⟨hn,hr,hkm,hin,he⟩ hok
 dsimp only at hn hr hkm hin he hok
 by_cases hrl:r<=V.length+1
 case neg=>
  have hrl':¬((r:Int)<=(V.length:Int)+1):=by omega
  rw[show V.length+2 - r=0 by omega]at he
  simp(disch:=omega)[qk (show V.length<2^62 by omega),hrl']
  obtain⟨g1,g2⟩:=hbase m n (by omega)
  exact⟨_,g1,g2,hk1 he.symm n (by omega)⟩
 have hrl':((r:Int)<=(V.length:Int)+1):=by omega
 rw[show V.length+2 - r=(V.length+1 - r)+1 by omega]at he
 obtain⟨Q,hQ⟩:∃Q,l.foldl z7 (m,false)=Q:=⟨_,rfl⟩
 rw[qba,hQ]at he
 simp(disch:=omega)[qk (show V.length<2^62 by omega),hrl']
 refine qB (σ:=NNR) (fun q=>(.nd (qz l) (.nd .bot (.nd (.bool false) (.nd (.int q.i) .nil .nil) .nil) (.nd (.int r) .nil .nil)) (.nd (Nl) (.nd (.asl o 0 V.length) .nil .nil) (.nd (.bool q.ch) .nil .nil)))) (fun q=>⟨(o,qL (qP q.m))::H.objs,q.n⟩) (fun q=>l.length - q.i)
  (fun q=>n0<=q.n/\q.i<=l.length/\qA q.m=V/\InP q.m (V.length+q.i*2^18)/\(l.drop q.i).foldl z7 (q.m,q.ch)=Q) ⟨0,n,m,false⟩ ⟨hn,Nat.zero_le _,hkm,hin.mono (by dsimp only;omega),hQ⟩ (by simp[FT.Le,Wk]) ⟨HWk.refl _,fun h=>h⟩ ?_
 rintro⟨i,n2,m2,ch2⟩ ⟨hn2,hi,hkm2,hin2,he2⟩ hok2
 dsimp only at hn2 hi hkm2 hin2 he2 hok2
 by_cases hlt:i<l.length
 case neg=>
  rw[List.drop_eq_nil_of_le (by omega)]at he2
  simp only[List.foldl_nil]at he2
  subst he2
  cases ch2
  ·dsimp only at he
   simp(disch:=omega)[hlt]
   rw[<-hVm m2 hkm2]
   exact keep (hk2 m2 he.symm o n2 ho (by omega))
  dsimp only at he
  rw[hVm m2 hkm2]at he
  simp(disch:=omega)[hlt]
  have hnn2:∀k,0<=qo m2 k:=fun k=>(hin2 k).1
  obtain⟨B,hB⟩:∃B,m2.any (fun e=>decide ((V.length:Int)<e.2))=B:=⟨_,rfl⟩
  rw[hB]at he
  refine qB (σ:=NN) (fun q=>(.nd (qz l) (.nd .bot (.nd (.bool false) .nil .nil) (.nd (.int r) .nil .nil)) (.nd (Nl) (.nd (.asl o 0 V.length) .nil (.nd (.int q.i) .nil .nil)) .nil))) (fun q=>⟨(o,qL (qP m2))::H.objs,q.n⟩) (fun q=>V.length - q.i)
   (fun q=>n0<=q.n/\q.i<=V.length/\(m2.drop q.i).any (fun e=>decide ((V.length:Int)<e.2))=B) ⟨0,n2⟩ ⟨hn2,Nat.zero_le _,hB⟩ (by simp[FT.Le,Wk]) ⟨HWk.refl _,fun h=>h⟩ ?_
  rintro⟨j,n3⟩ ⟨hn3,hj,hB3⟩ hok3
  simp only at hn3 hj hB3
  by_cases hlt3:j<V.length
  case neg=>
   rw[List.drop_eq_nil_of_le (by rw[hVm m2 hkm2];omega),List.any_nil]at hB3
   subst hB3
   simp(disch:=omega)[hlt3,qk (show r<2^62 by omega)]
   exact⟨⟨r+1,n3,m2⟩,by dsimp only;omega,⟨by dsimp only;omega,by dsimp only;omega,hkm2,qAb hnn2 (by omega) hB,by dsimp only;rw[show V.length+2 - (r+1)=V.length+1 - r by omega];simpa using he⟩,by simp[FT.Le,Wk],HWk.refl _,fun h=>h⟩
  have hjm:j<m2.length:=by rw[hVm m2 hkm2];exact hlt3
  rw[qzQ _ hjm]at hB3
  have hlo3:look o ((o,qL (qP m2))::H.objs)=some (qL (qP m2)):=by simp[look]
  have ia3:=iaA (n:=n3) hlo3 hlt3
  have l3:qS ⟨(o,qL (qP m2))::H.objs,n3⟩ none (.ptr o (j*3+2))=some (.int m2[j].2):=by
   rw[ldA (c:=2) hlo3 (by rw[qbr];exact hjm) (by omega),qjt hjm]
   rfl
  by_cases hbig:(V.length:Int)<m2[j].2
  ·simp[hbig]at hB3
   subst hB3
   simp at he
   simp(disch:=omega)[-iaL,-qS,ia3,l3,hlt3,hbig]
   obtain⟨g1,g2⟩:=hbase m2 n3 (by omega)
   exact⟨_,g1,g2,hk1 he.symm n3 (by omega)⟩
  ·simp[hbig]at hB3
   simp(disch:=omega)[-iaL,-qS,ia3,l3,hlt3,hbig,qk (show j<2^62 by omega)]
   exact⟨⟨j+1,n3⟩,by dsimp only;omega,⟨by dsimp only;omega,by dsimp only;omega,by simpa using hB3⟩,by simp[FT.Le,Wk],HWk.refl _,fun h=>h⟩
 rw[List.drop_eq_getElem_cons hlt,List.foldl_cons]at he2
 have hcm:=yv hlt
 have hbl:=hb _ hcm
 have hhd:ofA l[i].head∈V:=hK _ hcm _ List.mem_cons_self
 have hlo:∀m':List (PK×Int),look o ((o,qL (qP m'))::H.objs)=some (qL (qP m')):=fun m'=>by simp[look]
 simp(disch:=omega)[hlt]
 refine qms hkm2 hhd (hlo m2) rfl (by omega) fun n3 hn3=>?_
 obtain⟨W,hW⟩:∃W,z7 (m2,ch2) l[i]=W:=⟨_,rfl⟩
 rw[hW]at he2
 simp(disch:=omega)[hlt]
 refine qB (σ:=NNR) (fun q=>(.nd (qz l) (.nd .bot (.nd (.bool false) (.nd (.int i) .nil .nil) .nil) (.nd (.int r) (.nd (.int q.i) .nil .nil) .nil)) (.nd (Nl) (.nd (.asl o 0 V.length) (.nd (.int (qce (ofA l[i].head) V:Int)) .nil .nil) .nil) (.nd (.bool q.ch) .nil .nil)))) (fun q=>⟨(o,qL (qP q.m))::H.objs,q.n⟩) (fun q=>l[i].body.length - q.i)
  (fun q=>n0<=q.n/\q.i<=l[i].body.length/\qA q.m=V/\InP q.m (V.length+i*2^18+q.i)/\(l[i].body.drop q.i).foldl (zB (ofA l[i].head)) (q.m,q.ch)=W) ⟨0,n3,m2,ch2⟩ ⟨by dsimp only;omega,Nat.zero_le _,hkm2,hin2.mono (by dsimp only;omega),hW⟩ (by simp[FT.Le,Wk]) ⟨HWk.refl _,fun h=>h⟩ ?_
 rintro⟨j,n4,m4,ch4⟩ ⟨hn4,hj,hkm4,hin4,he4⟩ hok4
 dsimp only at hn4 hj hkm4 hin4 he4 hok4
 by_cases hlt4:j<l[i].body.length
 case neg=>
  rw[List.drop_eq_nil_of_le (by omega)]at he4
  simp only[List.foldl_nil]at he4
  subst he4
  simp(disch:=omega)[hlt,hlt4,qk (show i<2^62 by omega)]
  exact⟨⟨i+1,n4,m4,ch4⟩,by dsimp only;omega,⟨by dsimp only;omega,by dsimp only;omega,hkm4,hin4.mono (by dsimp only;omega),he2⟩,by simp[FT.Le,Wk],HWk.refl _,fun h=>h⟩
 rw[List.drop_eq_getElem_cons hlt4,List.foldl_cons]at he4
 have hkx:=hkd _ hcm _ (yv hlt4)
 have hfg:∀(x:qc)(m':List (PK×Int))(n':Nat),n4+1<=n'->HWk ⟨(n4,x)::(o,qL (qP m'))::H.objs,n'⟩ ⟨(o,qL (qP m'))::H.objs,n'⟩/\(qa.Ok ⟨(n4,x)::(o,qL (qP m'))::H.objs,n'⟩->qa.Ok ⟨(o,qL (qP m'))::H.objs,n'⟩):=fun x m' n' hn'=>
  zo (hOk m' n4 (by omega)) (qi.cons (hOk m' n4 (by omega)) (Nat.le_refl _) (qi.refl (Nat.le_refl _)) (by dsimp only;omega))
 by_cases hk2':l[i].body[j].kind<=2
 case neg=>
  have hst:zB (ofA l[i].head) (m4,ch4) l[i].body[j]=(m4,ch4):=by
   unfold zB
   rw[if_neg]
   have h1:¬l[i].body[j].kind=1:=by omega
   have h2:¬l[i].body[j].kind=2:=by omega
   have:=(hin4 (ofA l[i].head)).1
   simp only[vz,h1,h2,if_false]
   omega
  rw[hst]at he4
  have hgt:(2:Int)<l[i].body[j].kind:=by omega
  simp(disch:=omega)[hlt,hlt4,hgt,qk (show j<2^62 by omega)]
  obtain⟨g1,g2⟩:=hfg (.cells (uc l[i].body[j])) m4 (n4+1) (Nat.le_refl _)
  exact⟨⟨j+1,n4+1,m4,ch4⟩,by dsimp only;omega,⟨by dsimp only;omega,by dsimp only;omega,hkm4,hin4.mono (by dsimp only;omega),he4⟩,by simp[FT.Le,Wk],g1,g2⟩
 have hngt:¬(2:Int)<l[i].body[j].kind:=by omega
 have hk12:l[i].body[j].kind=1\/l[i].body[j].kind=2:=by omega
 have hat:ofA l[i].body[j].atom∈V:=hK _ hcm _ (List.mem_cons_of_mem _ (List.mem_map.2 ⟨l[i].body[j],List.mem_filter.2 ⟨yv hlt4,by simpa using hk12⟩,rfl⟩))
 have hinS:=qwU (h:=ofA l[i].head) (s:=(m4,ch4)) (x:=l[i].body[j]) hin4
 have hkS:=qkG (h:=ofA l[i].head) (s:=(m4,ch4)) (x:=l[i].body[j]) (by dsimp only;rw[hkm4];exact hhd)
 dsimp only at hinS hkS
 rw[hkm4]at hkS
 have hc:(V.length:Int)+i*2^18+(j:Int)+1=V.length+i*2^18+((j+1:Nat):Int):=by omega
 rw[hc]at hinS
 have hpv:∀k:PK,0<=qo m4 k/\qo m4 k<2^42:=fun k=>⟨(hin4 k).1,by have:=(hin4 k).2;omega⟩
 obtain⟨ob4,hob4⟩:∃ob4:List (Nat×qc),ob4=(n4,qc.cells (uc l[i].body[j]))::(o,qL (qP m4))::H.objs:=⟨_,rfl⟩
 have hlo4:look o ob4=some (qL (qP m4)):=by rw[hob4,qe (by omega)];exact hlo m4
 have hlit:look n4 ob4=some (.cells (uc l[i].body[j])):=by rw[hob4];exact qq _ _ _
 have hput:∀m':List (PK×Int),qy o (qL (qP m')) ob4=(n4,qc.cells (uc l[i].body[j]))::(o,qL (qP m'))::H.objs:=fun m'=>by
  rw[hob4,uD (by omega)]
  simp[qy]
 simp(disch:=omega)[hlt,hlt4,hngt]
 rw[show [LV.int l[i].body[j].kind,LV.str l[i].body[j].atom.pred,ql l[i].body[j].atom.args,LV.int l[i].body[j].a.kind,LV.int l[i].body[j].a.n,LV.str l[i].body[j].a.s,LV.int l[i].body[j].b.kind,LV.int l[i].body[j].b.n,LV.str l[i].body[j].b.s]=uc l[i].body[j] from rfl,<-hob4]
 refine qms hkm4 hat hlo4 rfl (by omega) fun n5 hn5=>?_
 have ia1:=v_ia (n:=n5) hkm4 hat hlo4
 have ia2:=v_ia (n:=n5) hkm4 hhd hlo4
 have ld1:=v_ld (n:=n5) hkm4 hat hlo4
 have ld2:=v_ld (n:=n5) hkm4 hhd hlo4
 have ldk:qS ⟨ob4,n5⟩ none (.ptr n4 0)=some (.int l[i].body[j].kind):=by simp[qS,hlit,zm]
 have st:=v_st (n:=n5) hkm4 hhd hlo4
 have hpa:=hpv (ofA l[i].body[j].atom)
 rcases hk12 with hk|hk
 ·have hv:vz m4 l[i].body[j]=qo m4 (ofA l[i].body[j].atom):=by simp[vz,hk]
  by_cases hlt5:qo m4 (ofA l[i].head)<qo m4 (ofA l[i].body[j].atom)
  ·have hst:zB (ofA l[i].head) (m4,ch4) l[i].body[j]=(zn (ofA l[i].head) (qo m4 (ofA l[i].body[j].atom)) m4,true):=by
    unfold zB;dsimp only;rw[hv,if_pos hlt5]
   rw[hst]at hinS hkS he4
   simp(disch:=omega)[-iaL,-qS,-stL,ia1,ia2,ld1,ld2,ldk,st,hk,hlt5,hput,qk (show j<2^62 by omega)]
   obtain⟨g1,g2⟩:=hfg (.cells (uc l[i].body[j])) (zn (ofA l[i].head) (qo m4 (ofA l[i].body[j].atom)) m4) n5 hn5
   exact⟨⟨j+1,n5,zn (ofA l[i].head) (qo m4 (ofA l[i].body[j].atom)) m4,true⟩,by dsimp only;omega,⟨by dsimp only;omega,by dsimp only;omega,hkS,hinS,he4⟩,by simp[FT.Le,Wk],g1,g2⟩
  ·have hst:zB (ofA l[i].head) (m4,ch4) l[i].body[j]=(m4,ch4):=by
    unfold zB;dsimp only;rw[hv,if_neg hlt5]
   rw[hst]at hinS hkS he4
   simp(disch:=omega)[-iaL,-qS,-stL,ia1,ia2,ld1,ld2,ldk,hk,hlt5,qk (show j<2^62 by omega)]
   obtain⟨g1,g2⟩:=hfg (.cells (uc l[i].body[j])) m4 n5 hn5
   rw[<-hob4]at g1 g2
   exact⟨⟨j+1,n5,m4,ch4⟩,by dsimp only;omega,⟨by dsimp only;omega,by dsimp only;omega,hkS,hinS,he4⟩,by simp[FT.Le,Wk],g1,g2⟩
 ·have hv:vz m4 l[i].body[j]=qo m4 (ofA l[i].body[j].atom)+1:=by simp[vz,hk]
  by_cases hlt5:qo m4 (ofA l[i].head)<qo m4 (ofA l[i].body[j].atom)+1
  ·have hst:zB (ofA l[i].head) (m4,ch4) l[i].body[j]=(zn (ofA l[i].head) (qo m4 (ofA l[i].body[j].atom)+1) m4,true):=by
    unfold zB;dsimp only;rw[hv,if_pos hlt5]
   rw[hst]at hinS hkS he4
   simp(disch:=omega)[-iaL,-qS,-stL,ia1,ia2,ld1,ld2,ldk,st,hk,uM,hlt5,hput,qk (show j<2^62 by omega)]
   obtain⟨g1,g2⟩:=hfg (.cells (uc l[i].body[j])) (zn (ofA l[i].head) (qo m4 (ofA l[i].body[j].atom)+1) m4) n5 hn5
   exact⟨⟨j+1,n5,zn (ofA l[i].head) (qo m4 (ofA l[i].body[j].atom)+1) m4,true⟩,by dsimp only;omega,⟨by dsimp only;omega,by dsimp only;omega,hkS,hinS,he4⟩,by simp[FT.Le,Wk],g1,g2⟩
  ·have hst:zB (ofA l[i].head) (m4,ch4) l[i].body[j]=(m4,ch4):=by
    unfold zB;dsimp only;rw[hv,if_neg hlt5]
   rw[hst]at hinS hkS he4
   simp(disch:=omega)[-iaL,-qS,-stL,ia1,ia2,ld1,ld2,ldk,hk,uM,hlt5,qk (show j<2^62 by omega)]
   obtain⟨g1,g2⟩:=hfg (.cells (uc l[i].body[j])) m4 n5 hn5
   rw[<-hob4]at g1 g2
   exact⟨⟨j+1,n5,m4,ch4⟩,by dsimp only;omega,⟨by dsimp only;omega,by dsimp only;omega,hkS,hinS,he4⟩,by simp[FT.Le,Wk],g1,g2⟩
structure qcJ(l:List qf):Prop where
 ok3:l.length<=40->∀c∈l,qf.ok3 c
theorem qrr:∀(l:List qf)(i:Nat),(qas l i).1=0->∀c∈l,je c=true
 |[],_,_,c,hc=>by cases hc
 |c::l,i,h,d,hd=>by
  simp only[qas]at h
  by_cases hf:je c=false
  ·rw[if_pos hf]at h;simp at h
  ·rw[if_neg hf]at h
   by_cases hs:qaZ c=false
   ·rw[if_pos hs]at h;simp at h
   ·rw[if_neg hs]at h
    rcases List.mem_cons.1 hd with rfl|hd
    ·simpa using hf
    ·exact qrr l (i+1) h d hd
theorem qfg{l:List qf}(h:(qQ l).1=0):l.length<=40/\∀c∈l,je c=true:=by
 unfold qQ at h
 split at h
 ·simp at h
 ·rename_i h1
  exact⟨by omega,qrr l 0 h⟩
theorem qwQ{x:Lit}(h:zI x=true):1<=x.kind/\x.kind<=6:=by
 unfold zI at h
 split at h
 ·omega
 ·split at h
  ·omega
  ·cases h
structure qej(l:List qf):Prop where
 len:l.length<=40
 body:∀c∈l,c.body.length<=5
 kind:∀c∈l,∀x∈c.body,1<=x.kind/\x.kind<=6
theorem qil{l:List qf}(h:(qQ l).1=0):qej l:=by
 obtain⟨h1,h2⟩:=qfg h
 exact⟨h1,fun c hc=>(wl (h2 c hc)).2.1,fun c hc x hx=>qwQ ((wl (h2 c hc)).2.2 x hx)⟩
theorem qej.initLen{l:List qf}(h:qej l):(l.foldl jc []).length<=240:=by
 have h1:=(qkT l [] fun _=>rfl).2.2.2
 have h2:∀l:List qf,(∀c∈l,c.body.length<=5)->(l.map fun c=>c.body.length+1).sum<=6*l.length:=by
  intro l
  induction l with
  |nil=>intro _;exact Nat.le_refl _
  |cons c l ih=>
   intro hb
   have a:=ih fun c hc=>hb c (List.mem_cons_of_mem _ hc)
   have b:=hb c List.mem_cons_self
   simp only[List.map_cons,List.sum_cons,List.length_cons]
   omega
 have h3:=h2 l h.body
 have h4:=h.len
 simp only[List.length_nil]at h1
 omega
theorem qej.allLen{l:List qf}(h:qej l):(vp l).length<=240:=by
 have h2:∀l:List qf,(∀c∈l,c.body.length<=5)->(vp l).length<=6*l.length:=by
  intro l
  induction l with
  |nil=>intro _;exact Nat.le_refl _
  |cons c l ih=>
   intro hb
   have a:=ih fun c hc=>hb c (List.mem_cons_of_mem _ hc)
   have b:=hb c List.mem_cons_self
   have e:(qci c).length<=c.body.length+1:=by
    unfold qci
    have g:∀b:List Lit,(b.flatMap qbA).length<=b.length:=by
     intro b
     induction b with
     |nil=>exact Nat.le_refl _
     |cons x b ih=>
      rw[List.flatMap_cons,List.length_append,List.length_cons]
      have:(qbA x).length<=1:=by unfold qbA;split<;>simp
      omega
    have:=g c.body
    simp only[List.length_cons]
    omega
   have:vp (c::l)=qci c++vp l:=rfl
   rw[this,List.length_append,List.length_cons]
   omega
 have h3:=h2 l h.body
 have h4:=h.len
 omega
theorem qul(l:List qf)(hl:qcJ l)(fuel:Nat)(R:Option (List (PK×Int)))(hR:(qQ l).1=0->jm l fuel (l.foldl jc [])=some R)(H:qa){kv kp:HP}
  (h0:(qQ l).1≠0->∀n,H.next<=n->kv (.tup [.sc (.map none),.int (qQ l).1]) ⟨H.objs,n⟩)
  (h1:(qQ l).1=0->R=none->∀n,H.next<=n->kv (.tup [.sc (.map none),.int 81]) ⟨H.objs,n⟩)
  (h2:(qQ l).1=0->∀m,R=some m->∀o n,H.next<=o->o<n->kv (.tup [.map o,.int 0]) ⟨(o,.map (za m))::H.objs,n⟩):cP E0 F0 66 [qz l] H kv kp:=by
 refine zX c66 fun hH=>⟨Nat.le_of_ble_eq_true rfl,?_⟩
 simp(disch:=omega)[b66]
 refine(qux l hl.ok3).go fun n hn=>?_
 by_cases hc:(qQ l).1=0
 case neg=>
  simp(disch:=omega)[hc]
  exact keep (h0 hc n hn)
 have hg:=qil hc
 simp(disch:=omega)[hc]
 refine qtL l (by have:=hg.len;omega) (fun c hcm=>by have:=hg.body c hcm;omega) (by have:=hg.initLen;omega) fuel R (hR hc) _ (fun hRn n2 hn2=>?_) (fun m hRm n2 hn2=>?_)
 ·dsimp only at hn2
  simp(disch:=omega)
  exact keep (h1 hc hRn n2 (by omega))
 ·dsimp only at hn2
  simp(disch:=omega)
  exact keep (h2 hc m hRm n n2 hn hn2)
abbrev qju(A:List qv):LV:=.sl (A.map qH) .no
def qbw(l:List qf)(S:Option (List (PK×Int))):Int:=if (qQ l).1≠0 then (qQ l).1 else if S=none then 81 else 0
def qdB(l:List qf)(S:Option (List (PK×Int))):List qv:=if (qQ l).1≠0 then [] else qP (S.getD [])
theorem qrn:∀A:List qv,qbn 3 A.length (A.flatMap zc)=A.map qH
 |[]=>rfl
 |x::A=>by
  have ih:=qrn A
  rw[List.length_cons,List.flatMap_cons]
  show mkEl ((zc x++A.flatMap zc).take 3)::qbn 3 A.length ((zc x++A.flatMap zc).drop 3)=_
  rw[show (zc x++A.flatMap zc).take 3=zc x from List.take_left (l₁:=zc x),show (zc x++A.flatMap zc).drop 3=A.flatMap zc from List.drop_left (l₁:=zc x),ih]
  rfl
theorem frzS{H:qa}{A:List qv}{o:Nat}(hl:look o H.objs=some (qL A)):qeS H [o] o 0 A.length=qju A:=by
 unfold qeS
 have h1:(A.flatMap zc).length=A.length*3:=qdc qaY A
 simp only[List.contains_cons,BEq.rfl,Bool.true_or,if_true,hl]
 rw[if_pos (by rw[h1];omega)]
 rw[Nat.zero_mul,List.drop_zero,qrn]
theorem qhY{L:List Nat}{j:Nat}(h:L.contains j=false):∀{l:List (Nat×qc)},look j (qbm L l)=look j l
 |[]=>rfl
 |(i,x)::r=>by
  simp only[qbm]
  by_cases hi:L.contains i=true
  ·rw[if_pos hi,qhY h]
   simp only[look]
   rw[if_neg]
   rintro rfl
   rw[hi]at h;cases h
  ·rw[if_neg hi]
   simp only[look]
   rw[qhY h]
def qhw:Option (List (PK×Int))->LV
 |none=>.tup [Nl,.bool false]
 |some m=>.tup [qju (qP m),.bool true]
def wu(l:List qf):List (PK×Int):=(qbb l).map fun s=>((s.pred,s.args),s.level)
theorem qvx(l:List qf):qP (wu l)=qbb l:=by
 unfold qP wu
 rw[List.map_map]
 conv=>rhs;rw[<-List.map_id (qbb l)]
 rfl
structure qsm(l:List qf):Prop where
 zero:∀k,qo (wu l) k=0
 has:∀c∈l,∀k∈vx c,k∈qA (wu l)
def zH(l:List qf):Option (List (PK×Int)):=qba l ((wu l).length+2) (wu l)
theorem qtr(l:List qf)(hne:l≠[])(hg:qej l)(hp:qsm l):qh 75 [qz l] (qhw (zH l)):=by
 intro H kv kp hk hH
 have h1:=qtt (kv:=fun v H'=>(zH l=none/\v=.tup [Nl,.bool false]/\∃n,H.next<=n/\H'=⟨H.objs,n⟩)\/∃m o n,zH l=some m/\H.next<=o/\o<n/\v=.tup [.asl o 0 m.length,.bool true]/\H'=⟨(o,qL (qP m))::H.objs,n⟩) (kp:=fun _ _=>False)
  l hne (by have:=hg.len;omega) (fun c hc=>by have:=hg.body c hc;omega) (by have:=hg.allLen;omega) (fun c hc x hx=>(hg.kind c hc x hx).1) (wu l) (qvx l) hp.zero hp.has (zH l) rfl H
  (fun hR n hn=>.inl ⟨hR,rfl,n,hn,rfl⟩) (fun m hR o n ho hn=>.inr ⟨m,o,n,hR,ho,hn,rfl,rfl⟩) hH
 refine .frz (fun v _=>match v with|.tup [.asl o _ _,_]=>[o]|_=>[]) h1 (fun v H' hT=>?_) (fun v H' hT=>?_)
 ·rcases hT with⟨u,H2,he,hok,hT⟩|⟨u,H2,he,hok,hf⟩
  ·cases he
   rcases hT with⟨hR,rfl,n,hn,rfl⟩|⟨m,o,n,hR,ho,hn,rfl,rfl⟩
   ·refine⟨⟨H.objs,n⟩,⟨Nat.le_refl _,fun i x hx=>(qhY (L:=[]) rfl).trans hx⟩,.inl ⟨_,_,rfl,qx.mono hH hn,?_⟩⟩
    have:=hk n hn
    rw[hR]at this
    exact this
   ·refine⟨⟨H.objs,n⟩,⟨Nat.le_refl _,fun i x hx=>?_⟩,.inl ⟨_,_,rfl,qx.mono hH (by dsimp only;omega),?_⟩⟩
    ·have:=hH.look hx
     have hne:¬i=o:=by omega
     have e1:look i (qbm [o] ((o,qL (qP m))::H.objs))=look i ((o,qL (qP m))::H.objs):=qhY (by simp[hne])
     show look i (qbm [o] ((o,qL (qP m))::H.objs))=some x
     rw[e1,qe hne]
     exact hx
    ·have:=hk n (by omega)
     rw[hR]at this
     have e:qeS ⟨(o,qL (qP m))::H.objs,n⟩ [o] o 0 (qP m).length=qju (qP m):=frzS (by simp[look])
     rw[qbr]at e
     simpa [vZ,frzL,e,qhw] using this
  ·cases he
 ·rcases hT with⟨u,H2,he,hok,hT⟩|⟨u,H2,he,hok,hf⟩
  ·cases he
  ·exact hf.elim
theorem qli{k:PK}:∀{A:List qv}{i:Nat},0<=uU A k i↔∃x∈A,qbe x=k
 |[],i=>by simp[uU]
 |x::r,i=>by
  have ih:=qli (k:=k) (A:=r) (i:=i+1)
  simp only[uU]
  by_cases h:qcw x k=true
  ·rw[if_pos h]
   exact⟨fun _=>⟨x,List.mem_cons_self,qhU.1 h⟩,fun _=>by omega⟩
  ·rw[if_neg h,ih]
   constructor
   ·rintro⟨y,h1,h2⟩;exact⟨y,List.mem_cons_of_mem _ h1,h2⟩
   ·rintro⟨y,h1,h2⟩
    rcases List.mem_cons.1 h1 with rfl|h1
    ·exact absurd (qhU.2 h2) h
    ·exact⟨y,h1,h2⟩
theorem qpv(k:PK):uT [] k=[⟨k.1,k.2,0⟩]:=rfl
theorem qpw(x:qv)(r:List qv)(k:PK):uT (x::r) k=if qeI x k then x::uT r k else ⟨k.1,k.2,0⟩::x::r:=by
 unfold uT
 simp only[wv]
 split
 ·simp
 ·simp
theorem qfZ{x:qv}{k:PK}:∀{A:List qv},x∈uT A k↔x=⟨k.1,k.2,0⟩\/x∈A
 |[]=>by rw[qpv];simp
 |y::r=>by
  rw[qpw]
  split
  ·rw[List.mem_cons,qfZ,List.mem_cons]
   exact⟨fun h=>h.elim (fun h=>.inr (.inl h)) fun h=>h.elim .inl fun h=>.inr (.inr h),fun h=>h.elim (fun h=>.inr (.inl h)) fun h=>h.elim .inl fun h=>.inr (.inr h)⟩
  ·exact List.mem_cons
theorem qoT{x:qv}{k:PK}:qeI x k=true↔ut x ⟨k.1,k.2,0⟩:=by
 unfold qeI ut
 simp[wH]
theorem qnx{k:PK}:∀{A:List qv},A.Pairwise ut->(∀x∈A,qbe x≠k)->(uT A k).Pairwise ut
 |[],_,_=>by rw[qpv];exact List.pairwise_singleton _ _
 |y::r,h,hk=>by
  obtain⟨h1,h2⟩:=List.pairwise_cons.1 h
  rw[qpw]
  by_cases hy:qeI y k=true
  ·rw[if_pos hy]
   refine List.pairwise_cons.2 ⟨fun z hz=>?_,qnx h2 fun x hx=>hk x (List.mem_cons_of_mem _ hx)⟩
   rcases qfZ.1 hz with rfl|hz
   ·exact qoT.1 hy
   ·exact h1 z hz
  ·rw[if_neg hy]
   have hlt:ut ⟨k.1,k.2,0⟩ y:=by
    apply Classical.byContradiction
    intro hn
    have hy':¬ut y ⟨k.1,k.2,0⟩:=fun e=>hy (qoT.2 e)
    obtain⟨e1,e2⟩:=qpl hy' hn
    refine hk y List.mem_cons_self ?_
    unfold qbe
    rw[e1,e2]
   refine List.pairwise_cons.2 ⟨fun z hz=>?_,h⟩
   rcases List.mem_cons.1 hz with rfl|hz
   ·exact hlt
   ·exact qpk hlt (h1 z hz)
structure qsk(aa:List qd)(A B:List qv):Prop where
 sub:∀x∈A,x∈B
 new:∀x∈B,x∈A\/(x.level=0/\∃a∈aa,qbe x=ofA a)
 all:∀a∈aa,∃x∈B,qbe x=ofA a
 ord:A.Pairwise ut->B.Pairwise ut
theorem qpV:∀(aa:List qd)(A:List qv),qsk aa A (aa.foldl uR A)
 |[],A=>⟨fun _ h=>h,fun _ h=>.inl h,fun _ h=>(by cases h),id⟩
 |a::r,A=>by
  have ih:=qpV r (uR A a)
  rw[List.foldl_cons]
  have hp:(∀x∈A,x∈uR A a)/\(∀x∈uR A a,x∈A\/(x.level=0/\qbe x=ofA a))/\(∃x∈uR A a,qbe x=ofA a)/\(A.Pairwise ut->(uR A a).Pairwise ut):=by
   unfold uR
   by_cases hf:wV A a
   ·rw[if_pos hf]
    exact⟨fun _ h=>h,fun _ h=>.inl h,qli.1 hf,id⟩
   ·rw[if_neg hf]
    refine⟨fun x hx=>qfZ.2 (.inr hx),fun x hx=>?_,⟨_,qfZ.2 (.inl rfl),rfl⟩,fun h=>qnx h fun x hx e=>hf (qli.2 ⟨x,hx,e⟩)⟩
    rcases qfZ.1 hx with rfl|hx
    ·exact .inr ⟨rfl,rfl⟩
    ·exact .inl hx
  obtain⟨p1,p2,⟨x0,p3,p4⟩,p5⟩:=hp
  refine⟨fun x hx=>ih.sub x (p1 x hx),fun x hx=>?_,fun b hb=>?_,fun h=>ih.ord (p5 h)⟩
  ·rcases ih.new x hx with h|⟨h1,b,hb,h2⟩
   ·rcases p2 x h with h|⟨h1,h2⟩
    ·exact .inl h
    ·exact .inr ⟨h1,a,List.mem_cons_self,h2⟩
   ·exact .inr ⟨h1,b,List.mem_cons_of_mem _ hb,h2⟩
  ·rcases List.mem_cons.1 hb with rfl|hb
   ·exact⟨x0,ih.sub x0 p3,p4⟩
   ·exact ih.all b hb
theorem qhD(l:List qf):qsk (vp l) [] (qbb l):=qpV (vp l) []
theorem qkr(l:List qf):qA (wu l)=(qbb l).map qbe:=by
 unfold qA wu
 rw[List.map_map]
 rfl
theorem qoC:∀{m:List (PK×Int)},(∀e∈m,e.2=0)->∀k,qo m k=0
 |[],_,_=>rfl
 |(j,u)::r,h,k=>by
  have ih:=qoC (m:=r) (fun e he=>h e (List.mem_cons_of_mem _ he)) k
  unfold qo at ih ⊢
  simp only[vQ]
  split
  ·exact h _ List.mem_cons_self
  ·exact ih
theorem qwE{l:List qf}(hk:∀c∈l,∀x∈c.body,1<=x.kind){k:PK}:(∃a∈vp l,k=ofA a)↔∃c∈l,k∈vx c:=by
 have hc:∀c∈l,(∃a∈qci c,k=ofA a)↔k∈vx c:=by
  intro c hcm
  unfold qci vx
  constructor
  ·rintro⟨a,ha,rfl⟩
   rcases List.mem_cons.1 ha with rfl|ha
   ·exact List.mem_cons_self
   ·obtain⟨x,hx,ha⟩:=List.mem_flatMap.1 ha
    unfold qbA at ha
    split at ha
    ·rename_i h2
     rw[List.mem_singleton.1 ha]
     have h1:=hk c hcm x hx
     have h12:x.kind=1\/x.kind=2:=by omega
     exact List.mem_cons_of_mem _ (List.mem_map.2 ⟨x,List.mem_filter.2 ⟨hx,by simpa using h12⟩,rfl⟩)
    ·cases ha
  ·intro h
   rcases List.mem_cons.1 h with rfl|h
   ·exact⟨c.head,List.mem_cons_self,rfl⟩
   ·obtain⟨x,hx,rfl⟩:=List.mem_map.1 h
    obtain⟨h1,h2⟩:=List.mem_filter.1 hx
    refine⟨x.atom,List.mem_cons_of_mem _ (List.mem_flatMap.2 ⟨x,h1,?_⟩),rfl⟩
    have:x.kind=1\/x.kind=2:=by simpa using h2
    unfold qbA
    rw[if_pos (by omega)]
    exact List.mem_singleton.2 rfl
 constructor
 ·rintro⟨a,ha,e⟩
  obtain⟨c,hcm,ha⟩:=List.mem_flatMap.1 ha
  exact⟨c,hcm,(hc c hcm).1 ⟨a,ha,e⟩⟩
 ·rintro⟨c,hcm,h⟩
  obtain⟨a,ha,e⟩:=(hc c hcm).2 h
  exact⟨a,List.mem_flatMap.2 ⟨c,hcm,ha⟩,e⟩
theorem qwC{l:List qf}(hk:∀c∈l,∀x∈c.body,1<=x.kind){k:PK}:k∈qA (wu l)↔∃c∈l,k∈vx c:=by
 rw[<-qwE hk,qkr,List.mem_map]
 have h:=qhD l
 constructor
 ·rintro⟨x,hx,rfl⟩
  rcases h.new x hx with h|⟨_,a,ha,e⟩
  ·cases h
  ·exact⟨a,ha,e⟩
 ·rintro⟨a,ha,rfl⟩
  exact h.all a ha
theorem qkj{l:List qf}(hk:∀c∈l,∀x∈c.body,1<=x.kind):qsm l where
 zero:=qoC fun e he=>by
  unfold wu at he
  obtain⟨s,hs,rfl⟩:=List.mem_map.1 he
  rcases (qhD l).new s hs with h|⟨h,_⟩
  ·cases h
  ·exact h
 has c hc k hkc:=(qwC hk).2 ⟨c,hc,hkc⟩
theorem qxb{x y:qv}(h:ut x y):qbe x≠qbe y:=by
 intro e
 have e1:x.pred=y.pred:=congrArg Prod.fst e
 have e2:x.args=y.args:=congrArg Prod.snd e
 rcases h with h|⟨_,h⟩
 ·rw[e1,qib,qfk]at h;cases h
 ·omega
theorem qwx(l:List qf):(qA (wu l)).Nodup:=by
 rw[qkr]
 have h:(qbb l).Pairwise ut:=(qhD l).ord .nil
 exact List.pairwise_map.2 (h.imp qxb)
theorem qts:qh 75 [qz []] (.tup [Nl,.bool true]):=by
 refine qh.of c75 fun H hH=>⟨Nat.le_of_ble_eq_true rfl,?_⟩
 simp(disch:=omega)[b75]
 have hp:qh 116 [qz []] Nl:=by
  refine qh.of c116 fun H hH=>⟨Nat.le_of_ble_eq_true rfl,?_⟩
  simp(disch:=omega)[qbo]
  refine qaJ ?_
  simp(disch:=omega)
  refine qaJ ?_
  simp(disch:=omega)
  exact qp hH (by first|rfl|simp[])
 refine hp.go fun n hn=>?_
 simp(disch:=omega)[uM]
 refine qaJ ?_
 simp(disch:=omega)[uM]
 refine qaJ ?_
 simp(disch:=omega)
 exact qp hH (by first|rfl|simp[])
theorem qmL(l:List qf)(hl:qcJ l):∃own,qh 32 [qz l] (.agg [.sl ((qdB l (zH l)).map qH) own,.int (qbw l (zH l))]):=by
 have hcs:(qcV l).1=(qQ l).1:=by rw[qyV]
 by_cases hc:(qQ l).1=0
 case neg=>
  refine⟨.full,qh.of c32 fun H hH=>⟨Nat.le_of_ble_eq_true rfl,?_⟩⟩
  simp(disch:=omega)[b32]
  refine(qhf l hl.ok3).go fun n hn=>?_
  rw[hcs]
  simp(disch:=omega)[hc]
  exact qp hH (by simp[qdB,qbw,hc])
 have hg:=qil hc
 cases hl0:l with
 |nil=>
  refine⟨.full,qh.of c32 fun H hH=>⟨Nat.le_of_ble_eq_true rfl,?_⟩⟩
  simp(disch:=omega)[b32]
  rw[hl0]at hl hcs hc
  refine(qhf [] hl.ok3).go fun n hn=>?_
  rw[hcs]
  simp(disch:=omega)[hc]
  refine qts.go fun n hn=>?_
  simp(disch:=omega)
  have e:zH []=some []:=rfl
  exact qp hH (by simp[qdB,qbw,hc,e,qP])
 |cons c r=>
  rw[<-hl0]
  have hne:l≠[]:=by rw[hl0];simp
  have hp:=qtr l hne hg (qkj fun c hc x hx=>(hg.kind c hc x hx).1)
  cases hS:zH l with
  |none=>
   rw[hS]at hp
   refine⟨.full,qh.of c32 fun H hH=>⟨Nat.le_of_ble_eq_true rfl,?_⟩⟩
   simp(disch:=omega)[b32]
   refine(qhf l hl.ok3).go fun n hn=>?_
   rw[hcs]
   simp(disch:=omega)[hc]
   refine hp.go fun n hn=>?_
   simp(disch:=omega)[qhw]
   exact qp hH (by simp[qdB,qbw,hc,qP])
  |some m=>
   rw[hS]at hp
   refine⟨.no,qh.of c32 fun H hH=>⟨Nat.le_of_ble_eq_true rfl,?_⟩⟩
   simp(disch:=omega)[b32]
   refine(qhf l hl.ok3).go fun n hn=>?_
   rw[hcs]
   simp(disch:=omega)[hc]
   refine hp.go fun n hn=>?_
   simp(disch:=omega)[qhw]
   exact qp hH (by simp[qdB,qbw,hc])
def hasP(k:PK)(W:List PK):Bool:=W.any (vD k)
structure NNG where
 f:Nat
 c:Nat
 n:Nat
 w:List PK
structure NNF where
 i:Nat
 n:Nat
 w:List PK
structure NNI2 where
 i:Nat
 n:Nat
 ns:List Int
 own:Own
 ob:List (Nat×qc)
abbrev qbB(ns:List Int):List LV:=ns.map LV.int
theorem qpt(ns:List Int):(qbB ns).all (fun e=>e.cells.length==1)=true:=by
 rw[List.all_map,List.all_eq_true]
 intro x _
 rfl
abbrev w9(bits:List Bool):qc:=.arr 1 (bits.map LV.bool)
def qzv(V U:List PK):List Bool:=V.map fun k=>hasP k U
section
variable{V U:List PK}{k:PK}(hk:k∈V){o n:Nat}{ob:List (Nat×qc)}(hl:look o ob=some (w9 (qzv V U)))
include hk hl
end
theorem qvY{E:Env}{F:Fns}(z:List LV)(x:BO)(t:FT)(H:qa)(kv kp:HP):opP E F (.ms z x) t H kv kp=evP E x t fun a=>vP (qX a) fun n=>n<=2^30/\kv (.asl H.next 0 n) ⟨(H.next,.arr z.length (List.replicate n z).flatten)::H.objs,H.next+1⟩:=by
 show wi E _ t H kv=_
 rw[qdf rfl]
 unfold evP
 simp only[uo]
 cases qX (E.ev t.get x) with
 |none=>
  rw[Option.bind_none,zG]
  apply propext
  constructor
  ·rintro⟨_,_,h,_⟩;cases h
  ·intro h;exact h.elim
 |some n=>
  rw[Option.bind_some,zu]
  split
  ·rename_i h
   rw[uB]
   simp only[h,true_and]
   rfl
  ·rename_i h
   apply propext
   constructor
   ·rintro⟨_,_,h',_⟩;cases h'
   ·rintro⟨h',_⟩;exact absurd h' h
theorem bs_st{bs:List Bool}{o n j:Nat}{ob:List (Nat×qc)}(hl:look o ob=some (w9 bs))(hj:j<bs.length)(b:Bool):stL ⟨ob,n⟩ 1 (.ptr o j) (.bool b)=some ⟨qy o (w9 (bs.set j b)) ob,n⟩:=by
 have hbl:(bs.map LV.bool).length=bs.length:=List.length_map ..
 unfold stL
 simp only[hl]
 rw[if_pos ⟨rfl,rfl,by rw[hbl];omega⟩]
 have e:(bs.map LV.bool).take j++[LV.bool b]++(bs.map LV.bool).drop (j+1)=(bs.set j b).map LV.bool:=by
  rw[List.map_set,List.set_eq_take_append_cons_drop,if_pos (by rw[hbl];exact hj),List.append_assoc]
  rfl
 show some (qa.put ⟨ob,n⟩ o (.arr 1 ((bs.map LV.bool).take j++[LV.bool b]++(bs.map LV.bool).drop (j+1))))=_
 rw[e]
 rfl
theorem vR{i j:Nat}{x:qc}(h:i≠j):∀{l:List (Nat×qc)},look i (qy j x l)=look i l
 |[]=>rfl
 |(k,y)::r=>by
  simp only[qy]
  by_cases hk:j=k
  ·subst hk
   rw[if_pos rfl]
   simp only[look]
   rw[if_neg h,if_neg h]
  ·rw[if_neg hk]
   simp only[look]
   rw[vR h]
structure NNB where
 i:Nat
 n:Nat
 bs:List Bool
structure Stp where
 atom:qd
 cl:Int
 frm:List Int
abbrev wQ(s:Stp):List LV:=[.str s.atom.pred,ql s.atom.args,.int s.cl,.sl (s.frm.map LV.int) .no]
abbrev q9(s:Stp):LV:=.agg (wQ s)
abbrev qbj(M:List (ByteArray×Int)):List (LV×LV):=M.map fun e=>(.str e.1,.int e.2)
def uy(k:ByteArray):List (ByteArray×Int)->Option Int
 |[]=>none
 |(j,v)::r=>if qK k j then some v else uy k r
theorem qql(k:ByteArray):∀M:List (ByteArray×Int),yH (.pl 1) (.str k) (qbj M)=some ((uy k M).map LV.int)
 |[]=>rfl
 |(j,v)::r=>by
  have ih:=qql k r
  show (match eqK (.pl 1) (.str k) (.str j) with
   |some true=>some (some (LV.int v))
   |some false=>yH (.pl 1) (.str k) (qbj r)
   |none=>none)=_
  rw[ih]
  simp only[eqK,zE,uy]
  cases qK k j<;>rfl
theorem qnI(k:ByteArray)(v:Int):∀M:List (ByteArray×Int),uy k M=none->vL (.pl 1) (.str k) (.int v) (qbj M)=some (qbj (M++[(k,v)]))
 |[],_=>rfl
 |(j,u)::r,h=>by
  simp only[uy]at h
  by_cases he:qK k j=true
  ·rw[if_pos he]at h;cases h
  ·rw[if_neg he]at h
   have he':qK k j=false:=by simpa using he
   have ih:=qnI k v r h
   show (match eqK (.pl 1) (.str k) (.str j) with
    |some true=>some ((LV.str j,LV.int v)::qbj r)
    |some false=>(vL (.pl 1) (.str k) (.int v) (qbj r)).map ((LV.str j,LV.int u)::·)
    |none=>none)=_
   rw[ih]
   simp only[eqK,zE,he']
   rfl
def zV:List Stp->Int->List (ByteArray×Int)
 |[],_=>[]
 |s::r,i=>(qt s.atom,i)::zV r (i+1)
theorem qpA(s:Stp):∀(F:List Stp)(i:Int),zV (F++[s]) i=zV F i++[(qt s.atom,i+F.length)]
 |[],i=>by simp[zV]
 |q::F,i=>by
  have ih:=qpA s F (i+1)
  simp only[List.cons_append,zV,ih,List.length_cons]
  congr 4
  omega
theorem qge{k:ByteArray}:∀{F:List Stp}{i:Int},uy k (zV F i)=none↔∀q∈F,qt q.atom≠k
 |[],_=>by simp[zV,uy]
 |q::F,i=>by
  have ih:=qge (k:=k) (F:=F) (i:=i+1)
  simp only[zV,uy]
  by_cases he:qK k (qt q.atom)=true
  ·rw[if_pos he]
   have:=wH.1 he
   constructor
   ·intro h;cases h
   ·intro h;exact absurd this.symm (h q List.mem_cons_self)
  ·rw[if_neg he,ih]
   have hne:qt q.atom≠k:=fun e=>he (wH.2 e.symm)
   constructor
   ·intro h x hx
    rcases List.mem_cons.1 hx with rfl|hx
    ·exact hne
    ·exact h x hx
   ·exact fun h x hx=>h x (List.mem_cons_of_mem _ hx)
structure zR(ob:List (Nat×qc))(fo am:Nat)(F:List Stp)(own:Own):Prop where
 pair:look fo ob=some (.cells [.map am,.sl (F.map q9) own])
 map:look am ob=some (.map (qbj (zV F 0)))
 ne:fo≠am
 row:(own=.full/\F=[])\/∃t,own=.tok t/\t≠fo/\t≠am/\look t ob=some (.tok F.length 4)
def qU(ob:List (Nat×qc)):Prop:=∀i m l k n,look i ob≠some (.iter m l k n)
def qdb:qc->Bool
 |.iter _ _ _ _=>true
 |_=>false
theorem qeF{ob:List (Nat×qc)}:qU ob↔∀i x,look i ob=some x->qdb x=false:=by
 constructor
 ·intro h i x hx
  cases x<;>first|rfl|exact absurd hx (h _ _ _ _ _)
 ·intro h i m l k n hx
  exact absurd (h i _ hx) (by simp[qdb])
theorem qU.cons{ob:List (Nat×qc)}(h:qU ob)(m:Nat){x:qc}(hx:qdb x=false):qU ((m,x)::ob):=qeF.2 fun i y hy=>by
 simp only[look]at hy
 split at hy
 ·cases hy;exact hx
 ·exact qeF.1 h i y hy
theorem qoV{o:Nat}{x:qc}:∀{l:List (Nat×qc)}{i:Nat}{y:qc},look i (qy o x l)=some y->y=x\/look i l=some y
 |[],_,_,h=>by cases h
 |(j,z)::r,i,y,h=>by
  simp only[qy]at h
  split at h
  ·simp only[look]at h ⊢
   split at h
   ·cases h;exact .inl rfl
   ·rename_i hne;exact .inr (by rw[if_neg hne];exact h)
  ·simp only[look]at h ⊢
   split at h
   ·rename_i he;exact .inr (by rw[if_pos he];exact h)
   ·rename_i hne;rw[if_neg hne];exact qoV h
theorem qU.put{ob:List (Nat×qc)}(h:qU ob)(m:Nat){x:qc}(hx:qdb x=false):qU (qy m x ob):=qeF.2 fun i y hy=>by
 rcases qoV hy with rfl|hy
 ·exact hx
 ·exact qeF.1 h i y hy
def qlQ(n:Nat)(own own':Own):Prop:=own'=own\/∃t,own'=.tok t/\n<=t
theorem lkM{H:qa}{o:Nat}{M:List (ByteArray×Int)}(h:look o H.objs=some (.map (qbj M)))(k:ByteArray)(z:LV):lkL H (.pl 1) true z (.map o) (.str k)=some (match uy k M with|some t=>.tup [.int t,.bool true]|none=>.tup [z,.bool false]):=by
 unfold lkL
 simp only[eqK,zE,qbG,Option.isSome_some,if_true,h,qql]
 cases uy k M<;>rfl
theorem muM{H:qa}{o:Nat}{M:List (ByteArray×Int)}{k:ByteArray}(h:look o H.objs=some (.map (qbj M)))(hn:uy k M=none)(v:Int):muL H (.pl 1) (.map o) (.str k) (.int v)=some (H.put o (.map (qbj (M++[(k,v)])))):=by
 unfold muL
 simp only[h,eqK,zE,qbG,Option.isNone_some,Bool.false_eq_true,if_false,qnI _ _ _ hn,Option.map_some]
theorem quC(F:List Stp):(F.map q9).all (fun e=>e.cells.length==4)=true:=by
 rw[List.all_map,List.all_eq_true]
 intro x _
 rfl
theorem qjq(s:Stp)(hs:qI s.atom=true)(fo am:Nat)(F:List Stp)(hF:F.length<=2^20)(own:Own)(ob:List (Nat×qc))(n:Nat)(hA:zR ob fo am F own){kv kp:HP}
  (h0:(∃q∈F,qt q.atom=qt s.atom)->∀n',n<=n'->kv (.tup []) ⟨ob,n'⟩)
  (h1:(∀q∈F,qt q.atom≠qt s.atom)->∀ob' n' own',n<=n'->zR ob' fo am (F++[s]) own'->qlQ n own own'->(qU ob->qU ob')->(∀i,i<n->i≠fo->i≠am->(∀t,own=.tok t->i≠t)->look i ob'=look i ob)->kv (.tup []) ⟨ob',n'⟩):
  cP E0 F0 46 [.ptr fo 0,q9 s] ⟨ob,n⟩ kv kp:=by
 refine zX c46 fun hH=>⟨Nat.le_of_ble_eq_true rfl,?_⟩
 have hfo:fo<n:=hH.look hA.pair
 have ham:am<n:=hH.look hA.map
 simp(disch:=omega)[b46]
 refine(qep s.atom hs).go fun n2 hn2=>?_
 simp(disch:=omega)[hA.pair]
 rw[lkM (by rw[qe (by omega)];exact hA.map)]
 cases hl:uy (qt s.atom) (zV F 0) with
 |some t=>
  simp(disch:=omega)[zw]
  have hex:∃q∈F,qt q.atom=qt s.atom:=by
   apply Classical.byContradiction
   intro hno
   have:=qge (i:=0).2 fun q hq e=>hno ⟨q,hq,e⟩
   rw[hl]at this;cases this
  obtain⟨g1,g2⟩:=zo (l:=(n,qc.cells (wQ s))::ob) (n:=n2) hH (qi.cons' hH (Nat.le_refl _) (by dsimp only;omega) (qi.refl' _))
  exact⟨_,g1,g2,h0 hex n2 (by omega)⟩
 |none=>
  have hnone:=qge.1 hl
  simp(disch:=omega)[hA.pair,hA.map]
  rw[muM (by rw[qe (by omega)];exact hA.map) hl]
  obtain⟨S,hS⟩:∃S,F.map q9=S:=⟨_,rfl⟩
  have hall:=quC F
  have hpair:=hA.pair
  have hSl:S.length=F.length:=by rw[<-hS,List.length_map]
  have hF2:(F++[s]).map q9=S++[q9 s]:=by rw[<-hS];simp
  have hidx:zV (F++[s]) 0=zV F 0++[(qt s.atom,(F.length:Int))]:=by rw[qpA];simp
  rw[hS]at hall hpair
  rw[<-hidx]
  obtain⟨M2,hM2⟩:∃M2,qc.map (qbj (zV (F++[s]) 0))=M2:=⟨_,rfl⟩
  have hMi:qdb M2=false:=by rw[<-hM2];rfl
  rw[hM2]
  have hna:fo≠am:=hA.ne
  have hlp:look fo (qy am M2 ob)=some (.cells [.map am,.sl S own]):=by rw[vR hna];exact hpair
  simp(disch:=omega)[hlp]
  refine zF ?_
  simp(disch:=omega)
  have hmap:look am (qy am M2 ob)=some M2:=jl hA.map
  rcases hA.row with⟨rfl,hFn⟩|⟨t,rfl,t1,t2,t3⟩
  ·rw[qiQ hall rfl (by rw[hSl];omega) (by omega)]
   simp(disch:=omega)[hlp,zw]
   refine⟨_,HWk.refl _,fun h=>h,h1 hnone _ _ (.tok n2) (by omega) ⟨?_,?_,hna,.inr ⟨n2,rfl,by omega,by omega,?_⟩⟩ (.inr ⟨n2,rfl,by omega⟩) ?_ fun i hi hif hia _=>?_⟩
   ·rw[qe (by omega),qe (by omega),hF2]
    exact jl hlp
   ·rw[qe (by omega),qe (by omega),vR (Ne.symm hna),hM2]
    exact hmap
   ·simp[look,hSl]
   ·exact fun hI=>qU.cons (qU.cons (qU.put (qU.put hI _ hMi) _ rfl) _ rfl) _ rfl
   ·rw[qe (by omega),qe (by omega),vR hif,vR hia]
  ·have htn:t<n:=hH.look t3
   have hlp2:look fo (qy t (qc.tok (S.length+1) 4) (qy am M2 ob))=some (.cells [.map am,.sl S (.tok t)]):=by rw[vR (Ne.symm t1)];exact hlp
   have htt:look t (qy am M2 ob)=some (.tok F.length 4):=by rw[vR t2];exact t3
   rw[qiP hall rfl (by rw[hSl];omega) (by omega) (by omega) (by rw[qe (by omega),hSl];exact htt)]
   simp(disch:=omega)[hlp2,zw]
   refine⟨_,HWk.refl _,fun h=>h,h1 hnone _ _ (.tok t) (by omega) ⟨?_,?_,hna,.inr ⟨t,rfl,t1,t2,?_⟩⟩ (.inl rfl) ?_ fun i hi hif hia hit=>?_⟩
   ·rw[qe (by omega),hF2]
    exact jl hlp2
   ·rw[qe (by omega),vR (Ne.symm hna),vR (Ne.symm t2),hM2]
    exact hmap
   ·rw[qe (by omega),vR t1,jl htt]
    simp[hSl]
   ·exact fun hI=>qU.cons (qU.put (qU.put (qU.put hI _ hMi) _ rfl) _ rfl) _ rfl
   ·rw[qe (by omega),vR hif,vR (hit t rfl),vR hia]
def qF(k:ByteArray)(F:List Stp):Bool:=(uy k (zV F 0)).isSome
theorem wf{k:ByteArray}{F:List Stp}:qF k F=true↔∃q∈F,qt q.atom=k:=by
 unfold qF
 constructor
 ·intro h
  apply Classical.byContradiction
  intro hno
  rw[qge.2 fun q hq e=>hno ⟨q,hq,e⟩]at h
  cases h
 ·rintro⟨q,hq,e⟩
  cases hl:uy k (zV F 0) with
  |some v=>rfl
  |none=>exact absurd e (qge.1 hl q hq)
def zh(F:List Stp)(s:Stp):List Stp:=if qF (qt s.atom) F then F else F++[s]
def zK(F G:List Stp)(s:Stp):List Stp:=if qF (qt s.atom) F then G else if G.length<=300 then zh G s else G
theorem zR.cons{ob:List (Nat×qc)}{fo am n m:Nat}{F:List Stp}{own:Own}(h:zR ob fo am F own)(hH:qa.Ok ⟨ob,n⟩)(hm:n<=m)(x:qc):zR ((m,x)::ob) fo am F own:=by
 have b1:fo<n:=hH.look h.pair
 have b2:am<n:=hH.look h.map
 refine⟨by rw[qe (by omega)];exact h.pair,by rw[qe (by omega)];exact h.map,h.ne,?_⟩
 rcases h.row with h1|⟨t,h1,h2,h3,h4⟩
 ·exact .inl h1
 ·have b3:t<n:=hH.look h4
  exact .inr ⟨t,h1,h2,h3,by rw[qe (by omega)];exact h4⟩
theorem t_do(a:qd)(ha:qI a=true)(frm:List Int)(fv hv iv:Nat)(i:Int)(fo am go gm:Nat)(F G:List Stp)(hG:G.length<=2^20)(ownF own:Own)(ob:List (Nat×qc))(n:Nat)
  (hF:zR ob fo am F ownF) (hA:zR ob go gm G own) (l1:look fv ob=some (.cells [.ptr fo 0])) (l2:look hv ob=some (.cells [.ptr go 0])) (l3:look iv ob=some (.cells [.int i])) {kv kp:HP}
  (hk:∀ob' n' own',n<=n'->zR ob' go gm (zK F G ⟨a,i,frm⟩) own'->qlQ n own own'->(qU ob->qU ob')->(∀i,i<n->i≠go->i≠gm->(∀t,own=.tok t->i≠t)->look i ob'=look i ob)->kv (.tup []) ⟨ob',n'⟩):
  cP E0 F0 71 [qg a,.sl (frm.map LV.int) .no,.ptr fv 0,.ptr hv 0,.ptr iv 0] ⟨ob,n⟩ kv kp:=by
 refine zX c71 fun hH=>⟨Nat.le_of_ble_eq_true rfl,?_⟩
 have b1:fv<n:=hH.look l1
 have b2:hv<n:=hH.look l2
 have b3:iv<n:=hH.look l3
 have b4:fo<n:=hH.look hF.pair
 have b5:am<n:=hH.look hF.map
 have b6:go<n:=hH.look hA.pair
 simp(disch:=omega)[b71,l1,hF.pair]
 refine(qep a ha).go fun n2 hn2=>?_
 simp(disch:=omega)
 rw[lkM (by rw[qe (by omega)];exact hF.map)]
 have hlast:∀(l:qc),zK F G ⟨a,i,frm⟩=G->∃H'',HWk ⟨(n,l)::ob,n2⟩ H''/\(qa.Ok ⟨(n,l)::ob,n2⟩->H''.Ok)/\kv (.tup []) H'':=fun l e=>by
  obtain⟨g1,g2⟩:=zo (l:=(n,l)::ob) (n:=n2) hH (qi.cons' hH (Nat.le_refl _) (by dsimp only;omega) (qi.refl' _))
  exact⟨_,g1,g2,hk ob n2 own (by omega) (by rw[e];exact hA) (.inl rfl) id fun _ _ _ _ _=>rfl⟩
 have hGl:(G.map q9).length=G.length:=List.length_map ..
 cases hl:uy (qt a) (zV F 0) with
 |some t=>
  simp(disch:=omega)[zw,l1,l2,l3,hF.pair,hA.pair]
  exact hlast _ (by simp[zK,qF,hl])
 |none=>
  by_cases h300:G.length<=300
  ·have h300':(G.length:Int)<=300:=by omega
   simp(disch:=omega)[l1,l2,l3,hF.pair,hA.pair,h300']
   have hnF:qF (qt a) F=false:=by simp[qF,hl]
   refine qjq ⟨a,i,frm⟩ ha go gm G hG own _ n2 (hA.cons hH (Nat.le_refl _) _) (fun hex n3 hn3=>?_) (fun hno ob' n3 own' hn3 hA' hnear hnoit hsame=>?_)
   ·simp(disch:=omega)[zw]
    have e:zK F G ⟨a,i,frm⟩=G:=by simp[zK,hnF,h300,zh,wf.2 hex]
    refine⟨_,HWk.refl _,fun h=>h,hk _ n3 own (by omega) (by rw[e];exact hA.cons hH (Nat.le_refl _) _) (.inl rfl) (fun hI=>hI.cons _ rfl) fun j hj _ _ _=>by rw[qe (by omega)]⟩
   ·simp(disch:=omega)[zw]
    have hnG:qF (qt a) G=false:=by
     cases h:qF (qt a) G with
     |false=>rfl
     |true=>
      obtain⟨q,hq,e⟩:=wf.1 h
      exact absurd e (hno q hq)
    have e:zK F G ⟨a,i,frm⟩=G++[⟨a,i,frm⟩]:=by simp[zK,hnF,h300,zh,hnG]
    refine⟨_,HWk.refl _,fun h=>h,hk ob' n3 own' (by omega) (by rw[e];exact hA') (hnear.imp id fun⟨t,h1,h2⟩=>⟨t,h1,by omega⟩) (fun hI=>hnoit (hI.cons _ rfl)) fun j hj h1 h2 h3=>?_⟩
    rw[hsame j (by omega) h1 h2 h3,qe (by omega)]
  ·have h300':¬(G.length:Int)<=300:=by omega
   simp(disch:=omega)[l1,l2,l3,hF.pair,hA.pair,h300',zw]
   exact hlast _ (by simp[zK,h300])
end Go.Abs.Tz
namespace Go.Abs.Tz
open Go Go.Abs Go.Proofs
def gd(F:List Stp)(K:qm):List Lit->Bool
 |[]=>true
 |x::r=>if x.kind=1 then gd F K r else if x.kind=2 then !qF (qt (qN K x.atom)) F&&gd F K r else qaO K x&&gd F K r
def qJ(b:List Lit):List qd:=(b.filter fun x=>decide (x.kind=1)).map Lit.atom
def jb(F:List Stp)(c:qf):List qd->qm->List Int->List (qm×List Int)
 |[],K,frm=>if gd F K c.body then [(K,frm)] else []
 |p::ps,K,frm=>(List.range F.length).flatMap fun j=>match F[j]? with
  |some s=>match zf K p s.atom with
   |some R=>jb F c ps R (frm++[(j:Int)])
   |none=>[]
  |none=>[]
def jd{σ:Type}(step:σ->qd->List Int->σ)(c:qf)(l:List (qm×List Int))(s:σ):σ:=l.foldl (fun s x=>step s (qN x.1 c.head) x.2) s
theorem qpL(F G:List Stp)(s:Stp):G.length<=(zK F G s).length/\(zK F G s).length<=G.length+1:=by
 unfold zK zh
 by_cases h1:qF (qt s.atom) F=true
 ·rw[if_pos h1];omega
 ·rw[if_neg h1]
  by_cases h2:G.length<=300
  ·rw[if_pos h2]
   by_cases h3:qF (qt s.atom) G=true
   ·rw[if_pos h3];omega
   ·rw[if_neg h3];simp
  ·rw[if_neg h2];omega
theorem qpK{F G:List Stp}{s:Stp}(h:G.length<=301):(zK F G s).length<=301:=by
 have h1:=(qpL F G s).2
 by_cases h2:G.length<=300
 ·omega
 ·have:zK F G s=G:=by
   unfold zK
   by_cases h3:qF (qt s.atom) F=true
   ·rw[if_pos h3]
   ·rw[if_neg h3,if_neg h2]
  rw[this];exact h
end Go.Abs.Tz
namespace Go.Abs.Tz
open Go Go.Abs Go.Proofs
def qD(a:qd):Prop:=qI a=true/\a.args.all ux=true
structure uq(K:qm):Prop where
 nd:(z6 K).Nodup
 ok:∀e∈K,qO e.2=true/\ux e.2=true
theorem uq.nil:uq []:=⟨.nil,fun e h=>by cases h⟩
def qaz(K R:qm):Prop:=∀k v,qY k K=some v->qY k R=some v
theorem qaz.refl(K:qm):qaz K K:=fun _ _ h=>h
theorem qaz.trans{K L R:qm}(h:qaz K L)(k:qaz L R):qaz K R:=fun x v hx=>k x v (h x v hx)
def uL(K:qm)(ts:List qn):Prop:=∀t∈ts,t.kind=3->(qY t.s K).isSome=true
theorem uL.ext{K R:qm}{ts:List qn}(h:uL K ts)(he:qaz K R):uL R ts:=fun t ht hk=>by
 obtain⟨v,hv⟩:=Option.isSome_iff_exists.1 (h t ht hk)
 rw[he _ _ hv];rfl
theorem qqo{k:ByteArray}{v:qn}:∀{E X:qm},qY k E=some v->qY k (E++X)=some v
 |[],_,h=>by cases h
 |(j,u)::r,X,h=>by
  simp only[qY,List.cons_append]at h ⊢
  split
  ·rename_i hj;rw[if_pos hj]at h;exact h
  ·rename_i hj;rw[if_neg hj]at h;exact qqo h
theorem qqn{k:ByteArray}{v:qn}:∀{E:qm},qY k E=none->qY k (E++[(k,v)])=some v
 |[],_=>by simp[qY,qbG]
 |(j,u)::r,h=>by
  simp only[qY,List.cons_append]at h ⊢
  split
  ·rename_i hj;rw[if_pos hj]at h;cases h
  ·rename_i hj;rw[if_neg hj]at h;exact qqn h
theorem qxW{K R:qm}(h:qaz K R){t:qn}(hb:t.kind=3->(qY t.s K).isSome=true):zi R t=zi K t:=by
 unfold zi
 by_cases hk:t.kind=3
 ·obtain⟨v,hv⟩:=Option.isSome_iff_exists.1 (hb hk)
  rw[if_pos hk,if_pos hk,hv,h _ _ hv]
 ·rw[if_neg hk,if_neg hk]
theorem qxX{K R:qm}(h:qaz K R){a:qd}(hb:uL K a.args):qN R a=qN K a:=by
 unfold qN
 congr 1
 exact List.map_congr_left fun t ht=>qxW h (hb t ht)
theorem qlF:∀(ps qs:List qn)(K R:qm),uq K->(∀q∈qs,qO q=true/\ux q=true)->ps.length=qs.length->zg K ps qs=some R ->
  uq R/\qaz K R/\uL R ps/\ps.map (zi R)=qs
 |[],[],K,R,hK,_,_,h=>by
  simp only[zg,Option.some.injEq]at h
  subst h
  exact⟨hK,.refl _,fun t ht=>(by cases ht),rfl⟩
 |[],_::_,_,_,_,_,hl,_=>by simp at hl
 |_::_,[],_,_,_,_,hl,_=>by simp at hl
 |p::ps,q::qs,K,R,hK,hq,hl,h=>by
  have hl':ps.length=qs.length:=by simpa using hl
  have hq':∀x∈qs,qO x=true/\ux x=true:=fun x hx=>hq x (List.mem_cons_of_mem _ hx)
  simp only[zg]at h
  by_cases hk:p.kind=3
  ·rw[if_pos hk]at h
   have fin:∀K':qm,uq K'->qaz K K'->qY p.s K'=some q->zg K' ps qs=some R->uq R/\qaz K R/\uL R (p::ps)/\(p::ps).map (zi R)=q::qs:=by
    intro K' h1 h2 h3 h4
    obtain⟨g1,g2,g3,g4⟩:=qlF ps qs K' R h1 hq' hl' h4
    refine⟨g1,h2.trans g2,fun t ht htk=>?_,?_⟩
    ·rcases List.mem_cons.1 ht with rfl|ht
     ·rw[g2 _ _ h3];rfl
     ·exact g3 t ht htk
    ·rw[List.map_cons,g4]
     congr 1
     unfold zi
     rw[if_pos hk,g2 _ _ h3];rfl
   cases hf:qY p.s K with
   |some old=>
    rw[hf]at h
    simp only at h
    split at h
    ·rename_i he
     have:=qgv he
     subst this
     exact fin K hK (.refl _) hf h
    ·cases h
   |none=>
    rw[hf]at h
    simp only at h
    refine fin _ ⟨?_,fun e he=>?_⟩ (fun k v hv=>qqo hv) (qqn hf) h
    ·unfold z6
     rw[List.map_append]
     refine List.nodup_append.2 ⟨hK.nd,by simp,fun x hx y hy e=>?_⟩
     simp at hy
     subst hy
     subst e
     exact qdQ hf hx
    ·rcases List.mem_append.1 he with he|he
     ·exact hK.ok e he
     ·simp at he
      subst he
      exact hq q List.mem_cons_self
  ·rw[if_neg hk]at h
   split at h
   ·rename_i he
    have e:=qgv he
    obtain⟨g1,g2,g3,g4⟩:=qlF ps qs K R hK hq' hl' h
    refine⟨g1,g2,fun t ht htk=>?_,?_⟩
    ·rcases List.mem_cons.1 ht with rfl|ht
     ·exact absurd htk hk
     ·exact g3 t ht htk
    ·rw[List.map_cons,g4]
     congr 1
     unfold zi
     rw[if_neg hk,e]
   ·cases h
theorem qD.args{a:qd}(h:qD a):∀q∈a.args,qO q=true/\ux q=true:=fun q hq=>
 ⟨List.all_eq_true.1 (wK h.1).2 q hq,List.all_eq_true.1 h.2 q hq⟩
theorem qfm{K R:qm}{p a:qd}(hK:uq K)(ha:qD a)(h:zf K p a=some R):uq R/\qaz K R/\uL R p.args/\qN R p=a:=by
 unfold zf at h
 split at h
 ·rename_i hc
  simp only[Bool.and_eq_true,decide_eq_true_eq]at hc
  obtain⟨g1,g2,g3,g4⟩:=qlF _ _ K R hK ha.args hc.2 h
  refine⟨g1,g2,g3,?_⟩
  unfold qN
  rw[g4,wH.1 hc.1]
 ·cases h
theorem uq.find{K:qm}(h:uq K){k:ByteArray}{v:qn}(hf:qY k K=some v):qO v=true/\ux v=true:=h.ok _ ((qgu h.nd).1 hf)
theorem qxV{K:qm}(h:uq K){t:qn}(ht:qO t=true)(hb:t.kind=3->(qY t.s K).isSome=true):qO (zi K t)=true/\ux (zi K t)=true:=by
 unfold zi
 by_cases hk:t.kind=3
 ·obtain⟨v,hv⟩:=Option.isSome_iff_exists.1 (hb hk)
  rw[if_pos hk,hv]
  exact h.find hv
 ·rw[if_neg hk]
  exact⟨ht,by simp[ux,hk]⟩
theorem qqr{K:qm}(h:uq K){a:qd}(ha:qI a=true)(hb:uL K a.args):qD (qN K a):=by
 have h1:=wK ha
 have h2:∀t∈(qN K a).args,qO t=true/\ux t=true:=by
  intro t ht
  obtain⟨u,hu,rfl⟩:=List.mem_map.1 (show t∈a.args.map (zi K) from ht)
  exact qxV h (List.all_eq_true.1 h1.2 u hu) (hb u hu)
 refine⟨?_,List.all_eq_true.2 fun t ht=>(h2 t ht).2⟩
 have h3:zS 97 122 a.pred=true:=by
  unfold qI at ha
  simp only[Bool.and_eq_true]at ha
  exact ha.1
 unfold qI
 rw[show (qN K a).pred=a.pred from rfl,h3,show (qN K a).args.length=a.args.length from List.length_map _,List.all_eq_true.2 fun t ht=>(h2 t ht).1]
 simp[h1.1]
theorem qhN(K:qm)(a:qd):ofA (qN K a)=ofA a:=by
 unfold ofA qN
 simp
theorem qsW{t:qn}(h:qO t=true):t.ok:=by
 unfold qn.ok
 rcases qjd h with⟨_,e⟩|⟨_,_,e⟩|⟨_,_,e⟩
 ·rw[e];exact Nat.pow_pos (by omega)
 ·have:=qen e;omega
 ·have:=qen e;omega
theorem jo{a:qd}(h:qI a=true):a.ok:=by
 have h1:=wK h
 unfold qI at h
 simp only[Bool.and_eq_true]at h
 have:=qen h.1
 exact⟨by omega,by omega,fun t ht=>qsW (List.all_eq_true.1 h1.2 t ht)⟩
structure zq(c:qf):Prop where
 ok:je c=true
 safe:qaZ c=true
theorem qhF{c:qf}{p:qd}(h:p∈qJ c.body):∃x∈c.body,x.kind=1/\x.atom=p:=by
 obtain⟨x,hx,e⟩:=List.mem_map.1 h
 obtain⟨h1,h2⟩:=List.mem_filter.1 hx
 exact⟨x,h1,by simpa using h2,e⟩
theorem qwD{c:qf}{x:Lit}(h:x∈c.body)(hk:x.kind=1):x.atom∈qJ c.body:=List.mem_map.2 ⟨x,List.mem_filter.2 ⟨h,by simp[hk]⟩,rfl⟩
theorem qgh{x:Lit}(h:zI x=true)(hk:x.kind=1\/x.kind=2):qI x.atom=true:=by
 unfold zI at h
 rw[if_pos hk]at h
 simp only[Bool.and_eq_true]at h
 exact h.1
theorem zq.posOk{c:qf}(h:zq c):∀p∈qJ c.body,qI p=true:=fun p hp=>by
 obtain⟨x,hx,hk,rfl⟩:=qhF hp
 exact qgh ((wl h.ok).2.2 x hx) (.inl hk)
theorem zq.bound{c:qf}(h:zq c){K:qm}(hp:∀p∈qJ c.body,uL K p.args):uL K c.head.args/\(∀x∈c.body,x.kind=2->uL K x.atom.args)/\∀x∈c.body,x.kind≠1->x.kind≠2->uL K [x.a,x.b]:=by
 have hs:=h.safe
 unfold qaZ at hs
 rw[List.all_eq_true]at hs
 have key:∀v,v∈(wU c.body ([],vG c.head.args [])).2->(qY v K).isSome=true:=by
  intro v hv
  have h1:=qii.1 (hs v hv)
  rcases qhZ.1 h1 with h2|⟨x,hx,hk,t,ht,htk,rfl⟩
  ·cases h2
  ·exact hp _ (qwD hx hk) t ht htk
 refine⟨fun t ht hk=>key _ (qgf.2 (.inl (qeG.2 (.inr ⟨t,ht,hk,rfl⟩)))),fun x hx hk t ht htk=>key _ (qgf.2 (.inr ⟨x,hx,by omega,t,by rw[if_pos hk];exact ht,htk,rfl⟩)),fun x hx h1 h2 t ht htk=>key _ (qgf.2 (.inr ⟨x,hx,h1,t,by rw[if_neg h2];exact ht,htk,rfl⟩))⟩
theorem zq.leaf{c:qf}(h:zq c){K:qm}(hK:uq K)(hp:∀p∈qJ c.body,uL K p.args):(∀x∈c.body,x.kind=2->qD (qN K x.atom))/\qD (qN K c.head):=by
 obtain⟨h1,h2,_⟩:=h.bound hp
 exact⟨fun x hx hk=>qqr hK (qgh ((wl h.ok).2.2 x hx) (.inr hk)) (h2 x hx hk),qqr hK (wl h.ok).1 h1⟩
end Go.Abs.Tz
namespace Go.Abs.Tz
open Go Go.Abs Go.Proofs
def qac(F:List Stp):List qd->qm->List Int->qm->Prop
 |[],K,js,R=>js=[]/\R=K
 |p::ps,K,js,R=>∃(j:Nat)(s:Stp)(K':qm)(js':List Int),F[j]? = some s/\zf K p s.atom=some K'/\js=(j:Int)::js'/\qac F ps K' js' R
def wd(S:qd->Prop):List qd->qm->qm->Prop
 |[],K,R=>R=K
 |p::ps,K,R=>∃(a:qd)(K':qm),S a/\zf K p a=some K'/\wd S ps K' R
def wM(F:List Stp)(a:qd):Prop:=∃s∈F,s.atom=a
theorem qdX{F:List Stp}:∀{ps:List qd}{K:qm}{js:List Int}{R:qm},qac F ps K js R->wd (wM F) ps K R
 |[],_,_,_,h=>h.2
 |_::_,_,_,_,⟨_,s,K',_,h1,h2,_,h4⟩=>⟨s.atom,K',⟨s,List.mem_iff_getElem?.2 ⟨_,h1⟩,rfl⟩,h2,qdX h4⟩
theorem qhM{F:List Stp}:∀{ps:List qd}{K:qm}{R:qm},wd (wM F) ps K R->∃js,qac F ps K js R
 |[],_,_,h=>⟨[],rfl,h⟩
 |_::_,_,_,⟨a,K',⟨s,hs,e⟩,h2,h3⟩=>by
  obtain⟨js,hjs⟩:=qhM h3
  obtain⟨j,hj⟩:=List.mem_iff_getElem?.1 hs
  exact⟨(j:Int)::js,j,s,K',js,hj,by rw[e];exact h2,rfl,hjs⟩
theorem wd.mono{S T:qd->Prop}(h:∀a,S a->T a):∀{ps:List qd}{K R:qm},wd S ps K R->wd T ps K R
 |[],_,_,hc=>hc
 |_::_,_,_,⟨a,K',h1,h2,h3⟩=>⟨a,K',h a h1,h2,wd.mono h h3⟩
theorem qbJ{S:qd->Prop}(hS:∀a,S a->qD a):∀{ps:List qd}{K R:qm},uq K->wd S ps K R->uq R/\qaz K R/\(∀p∈ps,uL R p.args)/\∀p∈ps,S (qN R p)
 |[],K,R,hK,h=>by
  have e:R=K:=h
  subst e
  exact⟨hK,.refl _,fun p hp=>(by cases hp),fun p hp=>(by cases hp)⟩
 |p::ps,K,R,hK,⟨a,K',h1,h2,h3⟩=>by
  obtain⟨g1,g2,g3,g4⟩:=qfm hK (hS a h1) h2
  obtain⟨f1,f2,f3,f4⟩:=qbJ hS g1 h3
  refine⟨f1,g2.trans f2,fun q hq=>?_,fun q hq=>?_⟩
  ·rcases List.mem_cons.1 hq with rfl|hq
   ·exact g3.ext f2
   ·exact f3 q hq
  ·rcases List.mem_cons.1 hq with rfl|hq
   ·rw[qxX f2 g3,g4];exact h1
   ·exact f4 q hq
def qaa(S:qd->Prop)(K:qm)(b:List Lit):Prop:=∀x∈b,(x.kind=2->¬S (qN K x.atom))/\(x.kind≠1->x.kind≠2->qaO K x=true)
def wn(S:qd->Prop)(c:qf)(h:qd):Prop:=∃R,wd S (qJ c.body) [] R/\qaa S R c.body/\h=qN R c.head
theorem wn.good{S:qd->Prop}(hS:∀a,S a->qD a){c:qf}(hc:zq c){h:qd}(hh:wn S c h):qD h:=by
 obtain⟨R,h1,_,rfl⟩:=hh
 obtain⟨g1,_,g3,_⟩:=qbJ hS .nil h1
 exact(hc.leaf g1 g3).2
theorem qcC{F:List Stp}(hF:∀s∈F,qI s.atom=true){a:qd}(ha:qI a=true):qF (qt a) F=true↔wM F a:=by
 rw[wf]
 constructor
 ·rintro⟨q,hq,e⟩
  exact⟨q,hq,qlJ (hF q hq) ha e⟩
 ·rintro⟨q,hq,e⟩
  exact⟨q,hq,by rw[e]⟩
theorem qbV{F:List Stp}(hF:∀s∈F,qI s.atom=true){K:qm}:∀{b:List Lit},(∀x∈b,x.kind=2->qI (qN K x.atom)=true)->(gd F K b=true↔qaa (wM F) K b)
 |[],_=>⟨fun _ x hx=>(by cases hx),fun _=>rfl⟩
 |x::r,hb=>by
  have ih:=qbV hF (K:=K) (b:=r) fun y hy=>hb y (List.mem_cons_of_mem _ hy)
  have split:qaa (wM F) K (x::r)↔((x.kind=2->¬wM F (qN K x.atom))/\(x.kind≠1->x.kind≠2->qaO K x=true))/\qaa (wM F) K r:=by
   constructor
   ·intro h
    exact⟨h x List.mem_cons_self,fun y hy=>h y (List.mem_cons_of_mem _ hy)⟩
   ·rintro⟨h1,h2⟩ y hy
    rcases List.mem_cons.1 hy with rfl|hy
    ·exact h1
    ·exact h2 y hy
  rw[split]
  unfold gd
  by_cases h1:x.kind=1
  ·rw[if_pos h1,ih]
   exact⟨fun h=>⟨⟨fun h2=>by omega,fun h3=>absurd h1 h3⟩,h⟩,fun h=>h.2⟩
  ·rw[if_neg h1]
   by_cases h2:x.kind=2
   ·rw[if_pos h2,Bool.and_eq_true,ih]
    have e:(!qF (qt (qN K x.atom)) F)=true↔¬wM F (qN K x.atom):=by
     rw[<-qcC hF (hb x List.mem_cons_self h2)]
     simp
    rw[e]
    exact⟨fun h=>⟨⟨fun _=>h.1,fun _ h3=>absurd h2 h3⟩,h.2⟩,fun h=>⟨h.1.1 h2,h.2⟩⟩
   ·rw[if_neg h2,Bool.and_eq_true,ih]
    exact⟨fun h=>⟨⟨fun h3=>absurd h3 h2,fun _ _=>h.1⟩,h.2⟩,fun h=>⟨h.1.2 h1 h2,h.2⟩⟩
theorem qca{F:List Stp}{c:qf}:∀{ps:List qd}{K:qm}{frm:List Int}{x:qm×List Int},x∈jb F c ps K frm↔∃js,qac F ps K js x.1/\gd F x.1 c.body=true/\x.2=frm++js
 |[],K,frm,x=>by
  unfold jb
  constructor
  ·intro h
   split at h
   ·rename_i hr
    simp at h
    subst h
    exact⟨[],⟨rfl,rfl⟩,hr,by simp⟩
   ·cases h
  ·rintro⟨js,⟨rfl,h2⟩,h3,h4⟩
   rw[<-h2,if_pos h3]
   obtain⟨x1,x2⟩:=x
   simp at h4
   subst h4
   simp
 |p::ps,K,frm,x=>by
  unfold jb
  rw[List.mem_flatMap]
  constructor
  ·rintro⟨j,hj,h⟩
   split at h
   ·rename_i s hs
    split at h
    ·rename_i R hR
     obtain⟨js,h1,h2,h3⟩:=qca.1 h
     exact⟨(j:Int)::js,⟨j,s,R,js,hs,hR,rfl,h1⟩,h2,by rw[h3];simp⟩
    ·cases h
   ·cases h
  ·rintro⟨js,⟨j,s,K',js',h1,h2,h3,h4⟩,h5,h6⟩
   refine⟨j,List.mem_range.2 (List.getElem?_eq_some_iff.1 h1).1,?_⟩
   rw[h1]
   simp only[h2]
   exact qca.2 ⟨js',h4,h5,by rw[h6,h3];simp⟩
def qeN(F:List Stp)(c:qf)(ci:Int):List Stp:=(jb F c (qJ c.body) [] []).map fun x=>⟨qN x.1 c.head,ci,x.2⟩
theorem qip(F:List Stp)(c:qf)(ci:Int)(l:List (qm×List Int))(G:List Stp):jd (fun G a frm=>zK F G ⟨a,ci,frm⟩) c l G=(l.map fun x=>(⟨qN x.1 c.head,ci,x.2⟩:Stp)).foldl (zK F) G:=by
 unfold jd
 rw[List.foldl_map]
theorem qpM(F G:List Stp)(s:Stp):zK F G s=G\/(zK F G s=G++[s]/\qF (qt s.atom) F=false/\qF (qt s.atom) G=false):=by
 unfold zK zh
 cases h1:qF (qt s.atom) F
 ·rw[if_neg (by simp)]
  by_cases h2:G.length<=300
  ·rw[if_pos h2]
   cases h3:qF (qt s.atom) G
   ·rw[if_neg (by simp)];exact .inr ⟨rfl,rfl,rfl⟩
   ·exact .inl (if_pos rfl)
  ·rw[if_neg h2];exact .inl rfl
 ·exact .inl (if_pos rfl)
theorem qxH{F G:List Stp}{s:Stp}(h:(zK F G s).length<=300):qF (qt s.atom) F=true\/qF (qt s.atom) (zK F G s)=true:=by
 cases h1:qF (qt s.atom) F
 ·right
  have hG:G.length<=300:=by have:=(qpL F G s).1;omega
  unfold zK zh
  rw[h1,if_neg (by simp),if_pos hG]
  cases h3:qF (qt s.atom) G
  ·rw[if_neg (by simp)]
   exact wf.2 ⟨s,by simp,rfl⟩
  ·rw[if_pos rfl];exact h3
 ·exact .inl rfl
theorem qxy{k:ByteArray}{G X:List Stp}(h:qF k G=true):qF k (G++X)=true:=by
 obtain⟨q,hq,e⟩:=wf.1 h
 exact wf.2 ⟨q,List.mem_append_left _ hq,e⟩
theorem qeT(F:List Stp):∀(l G:List Stp),∃X,l.foldl (zK F) G=G++X/\∀q∈X,q∈l
 |[],G=>⟨[],by simp,fun q hq=>by cases hq⟩
 |s::l,G=>by
  obtain⟨X,hX,hX2⟩:=qeT F l (zK F G s)
  rw[List.foldl_cons,hX]
  rcases qpM F G s with e|⟨e,_⟩
  ·exact⟨X,by rw[e],fun q hq=>List.mem_cons_of_mem _ (hX2 q hq)⟩
  ·refine⟨s::X,by rw[e];simp,fun q hq=>?_⟩
   rcases List.mem_cons.1 hq with rfl|hq
   ·exact List.mem_cons_self
   ·exact List.mem_cons_of_mem _ (hX2 q hq)
theorem qpI(F:List Stp):∀(l G:List Stp),(l.foldl (zK F) G).length<=300->∀s∈l,qF (qt s.atom) F=true\/qF (qt s.atom) (l.foldl (zK F) G)=true
 |[],G,_,s,hs=>by cases hs
 |q::l,G,h,s,hs=>by
  rw[List.foldl_cons]at h ⊢
  rcases List.mem_cons.1 hs with rfl|hs
  ·obtain⟨X,hX,_⟩:=qeT F l (zK F G s)
   rw[hX]at h ⊢
   rw[List.length_append]at h
   rcases qxH (F:=F) (G:=G) (s:=s) (by omega) with h1|h1
   ·exact .inl h1
   ·exact .inr (qxy h1)
  ·exact qpI F l _ h s hs
theorem qpH(F:List Stp):∀(l G:List Stp),G.length<=301->(l.foldl (zK F) G).length<=301
 |[],_,h=>h
 |s::l,G,h=>qpH F l _ (qpK h)
def qcl(F G:List Stp):Prop:=(G.map fun q=>qt q.atom).Nodup/\∀q∈G,qF (qt q.atom) F=false
theorem qcl.nil(F:List Stp):qcl F []:=⟨.nil,fun q hq=>by cases hq⟩
theorem qxI{F G:List Stp}{s:Stp}(h:qcl F G):qcl F (zK F G s):=by
 rcases qpM F G s with e|⟨e,h1,h2⟩
 ·rw[e];exact h
 ·rw[e]
  refine⟨?_,fun q hq=>?_⟩
  ·rw[List.map_append]
   refine List.nodup_append.2 ⟨h.1,by simp,fun x hx y hy hxy=>?_⟩
   simp at hy
   subst hy
   obtain⟨q,hq,e⟩:=List.mem_map.1 hx
   have:qF (qt s.atom) G=true:=wf.2 ⟨q,hq,by rw[e,hxy]⟩
   rw[h2]at this
   cases this
  ·rcases List.mem_append.1 hq with hq|hq
   ·exact h.2 q hq
   ·simp at hq
    subst hq
    exact h1
theorem qpJ(F:List Stp):∀(l G:List Stp),qcl F G->qcl F (l.foldl (zK F) G)
 |[],_,h=>h
 |_::l,_,h=>qpJ F l _ (qxI h)
theorem qsb:∀{G F:List Stp},qcl F G->G.foldl zh F=F++G
 |[],F,_=>by simp
 |s::G,F,h=>by
  obtain⟨h1,h2⟩:=h
  have e:zh F s=F++[s]:=by unfold zh;rw[h2 s List.mem_cons_self,if_neg (by simp)]
  rw[List.map_cons,List.nodup_cons]at h1
  rw[List.foldl_cons,e,qsb ⟨h1.2,fun q hq=>?_⟩]
  ·simp
  ·cases hh:qF (qt q.atom) (F++[s])
   ·rfl
   ·obtain⟨r,hr,er⟩:=wf.1 hh
    rcases List.mem_append.1 hr with hr|hr
    ·have:qF (qt q.atom) F=true:=wf.2 ⟨r,hr,er⟩
     rw[h2 q (List.mem_cons_of_mem _ hq)]at this
     cases this
    ·simp at hr
     subst hr
     exact absurd (List.mem_map.2 ⟨q,hq,er.symm⟩) h1.1
end Go.Abs.Tz
namespace Go.Abs.Tz
open Go Go.Abs Go.Proofs
set_option maxRecDepth 20000
set_option linter.unusedSimpArgs false
attribute [local simp ↓] yC yB jT jS yf uO zu zG jR uB vl vm yD yF yG yE jY j6 j9 jZ ga gc j7 j8 j0 jW jU jX jV vj vh vk vi yy yw yz yx yK yI yJ jj z8 ge zw zU yi vn vo yN yP yO yL yM yZ gh gq gv gp gt gu g7 g6 gC gE jB jy jM jP jz jH jL jK jJ jI jF ju jv jw jx jN jD jE jq jO jQ jA jC jG jr gI gD gY ya gF gS gW gV gU gT gO gz g0 gM gN gw g9 yb gG gK gQ gx yd g8 gy yc gL gH gJ gA gZ gi gk gj yT yW yS yU yV qq uG
attribute [local simp] faL fdL iaL ixL qS zm ze eqK eqL qX zE uA yQ vg y5 y7 y9 vc ve vf y6 vb y8 vd zM LV.cells LV.whole qq uQ gg gf stL zN ui uI qa.alloc yg ye yh yu yt yr yq yp yo yn ym yk yj qe uD
theorem qvB{K:qm}(hK:uq K){p:qn}:(uF K p).kind=3↔(p.kind=3/\qY p.s K=none):=by
 unfold uF
 by_cases h:p.kind=3
 ·rw[if_pos h]
  cases hf:qY p.s K with
  |none=>simp[h]
  |some v=>
   have:=(hK.find hf).2
   simp only[Option.getD_some]
   constructor
   ·intro e;simp[ux,e]at this
   ·rintro⟨_,e⟩;cases e
 ·rw[if_neg h]
  exact⟨fun e=>absurd e h,fun e=>e.1⟩
theorem qzy{K:qm}(hK:uq K)(p q:qn)(ps qs:List qn):zg K (p::ps) (q::qs)=if (uF K p).kind=3 then zg (K++[((uF K p).s,q)]) ps qs else if eqT (uF K p) q then zg K ps qs else none:=by
 by_cases h3:p.kind=3
 ·cases hf:qY p.s K with
  |none=>
   have e:uF K p=p:=by unfold uF;rw[if_pos h3,hf];rfl
   rw[e,if_pos h3]
   simp only[zg]
   rw[if_pos h3,hf]
  |some v=>
   have e:uF K p=v:=by unfold uF;rw[if_pos h3,hf];rfl
   have hv:¬v.kind=3:=fun h=>by have:=(hK.find hf).2;simp[ux,h]at this
   rw[e,if_neg hv]
   simp only[zg]
   rw[if_pos h3,hf]
 ·have e:uF K p=p:=by unfold uF;rw[if_neg h3]
  rw[e,if_neg h3]
  simp only[zg]
  rw[if_neg h3]
theorem qxB{K:qm}(hK:uq K){p q:qn}(h3:(uF K p).kind=3)(hq:qO q=true/\ux q=true):uq (K++[((uF K p).s,q)]):=by
 obtain⟨h1,h2⟩:=(qvB hK).1 h3
 have e:uF K p=p:=by unfold uF;rw[if_pos h1,h2];rfl
 rw[e]
 refine⟨?_,fun x hx=>?_⟩
 ·unfold z6
  rw[List.map_append]
  refine List.nodup_append.2 ⟨hK.nd,by simp,fun x hx y hy e=>?_⟩
  simp at hy
  subst hy
  subst e
  exact qdQ h2 hx
 ·rcases List.mem_append.1 hx with hx|hx
  ·exact hK.ok x hx
  ·simp at hx
   subst hx
   exact hq
theorem qzN{H:qa}{sz:Nat}{Y:List LV}{ow:Own}(hY:(Y.all fun e=>e.cells.length==sz)=true)(hl:Y.length<=2^30)(hs:sz<=2^10):apL H sz (.sl [] .full) (.sl Y ow)=some (.sl Y (.tok H.next),H.alloc (.tok Y.length sz)):=by
 unfold apL
 simp only
 rw[hY]
 simp only[List.all_nil,Bool.and_self,if_true,List.length_nil,Nat.zero_add,List.nil_append]
 rw[if_pos ⟨hl,hs,rfl⟩]
structure NNG2 where
 i:Nat
 n:Nat
 e:qm
theorem qmO(K:qm)(hK:uq K)(ow:Own)(p a:qd)(hp:p.ok)(ha:qD a)(hKl:K.length<=2^20)(H:qa){kv kp:HP}
  (hk1:∀R,zf K p a=some R->∀n,H.next<=n->kv (.tup [.sl (R.map wg) .no,.bool true]) ⟨H.objs,n⟩)
  (hk2:zf K p a=none->∀n,H.next<=n->∀x,kv (.tup [x,.bool false]) ⟨H.objs,n⟩):
  cP E0 F0 79 [.sl (K.map wg) ow,qg p,qg a] H kv kp:=by
 refine qdZ c79 fun hH=>⟨Nat.le_of_ble_eq_true rfl,?_⟩
 have hal:=(wK ha.1).1
 have finW:∀{H':qa}{v v':LV},Wk v v'->qi H H'->kv v' ⟨H.objs,H'.next⟩->∃v',Wk v v'/\∃H'',HWk H' H''/\(H'.Ok->H''.Ok)/\kv v' H'':=fun{H' v v'} hw he h=>⟨v',hw,⟨H.objs,H'.next⟩,⟨Nat.le_refl _,he.2⟩,fun _=>qx.mono hH he.1,h⟩
 cases h1:qK p.pred a.pred
 ·have hm:zf K p a=none:=by simp[zf,h1]
  simp(disch:=omega)[b79,h1]
  exact finW (.inl rfl) (by first|exact qi.refl' _|(repeat (first|exact qi.refl (by first|omega|(dsimp only;omega))|refine qi.cons' hH (by first|omega|(dsimp only;omega)) (by first|omega|(dsimp only;omega)) ?_))) (hk2 hm _ (by first|omega|(dsimp only;omega)) _)
 by_cases h2:p.args.length=a.args.length
 case neg=>
  have h2i:¬(p.args.length:Int)=(a.args.length:Int):=by omega
  have hm:zf K p a=none:=by simp[zf,h1,h2]
  simp(disch:=omega)[b79,h1,h2i]
  exact finW (.inl rfl) (by first|exact qi.refl' _|(repeat (first|exact qi.refl (by first|omega|(dsimp only;omega))|refine qi.cons' hH (by first|omega|(dsimp only;omega)) (by first|omega|(dsimp only;omega)) ?_))) (hk2 hm _ (by first|omega|(dsimp only;omega)) _)
 have h2i:(p.args.length:Int)=(a.args.length:Int):=by omega
 obtain⟨A,hA⟩:∃A,zf K p a=A:=⟨_,rfl⟩
 have hm:zg K p.args a.args=A:=by rw[<-hA];simp[zf,h1,h2]
 rw[hA]at hk1 hk2
 simp(disch:=omega)[b79,h1,h2i]
 refine zF ?_
 simp(disch:=omega)
 rw[qzN (qxC K) (by rw[List.length_map];omega) (by omega)]
 simp(disch:=omega)
 refine qB (σ:=NNG2) (fun q=>(.nd (.sl (K.map wg) ow) (.nd .bot .nil (.nd (.ptr (H.next+1) 0) (.nd (.int q.i) .nil .nil) .nil)) (.nd .bot (.nd (.ptr H.next 0) (.nd (.sl (q.e.map wg) (.tok (H.next+1+1))) .nil .nil) .nil) .nil)))
  (fun q=>⟨(H.next+1+1,.tok q.e.length 4)::(H.next+1,.cells [.str a.pred,ql a.args])::(H.next,.cells [.str p.pred,ql p.args])::H.objs,q.n⟩) (fun q=>a.args.length - q.i)
  (fun q=>H.next+3<=q.n/\q.i<=a.args.length/\q.e.length<=K.length+q.i/\uq q.e/\zg q.e (p.args.drop q.i) (a.args.drop q.i)=A) ⟨0,H.next+3,K⟩ ⟨by dsimp only;omega,Nat.zero_le _,by dsimp only;omega,hK,hm⟩ (by simp[FT.Le,Wk]) (by simp[HWk.refl]) ?_
 rintro⟨i,n,G⟩ ⟨hn,hi,hG,hGg,he⟩ hok
 simp only at hn hi hG hGg he
 have hHe:∀m:Nat,qa.Ok ⟨(H.next+1+1,.tok m 4)::(H.next+1,.cells [.str a.pred,ql a.args])::(H.next,.cells [.str p.pred,ql p.args])::H.objs,H.next+3⟩:=fun _=>⟨by first|omega|(dsimp only;omega),by omega,by omega,hH⟩
 by_cases hlt:i<a.args.length
 case neg=>
  rw[List.drop_eq_nil_of_le (by omega),List.drop_eq_nil_of_le (by omega)]at he
  simp only[zg]at he
  simp(disch:=omega)[hlt]
  exact finW (v':=.tup [.sl (G.map wg) .no,.bool true]) (.inr (.inl (by simp[LV.strip,stripL,qdw,List.map_map,Function.comp_def]))) (by first|exact qi.refl' _|(repeat (first|exact qi.refl (by first|omega|(dsimp only;omega))|refine qi.cons' hH (by first|omega|(dsimp only;omega)) (by first|omega|(dsimp only;omega)) ?_))) (hk1 G he.symm _ (by first|omega|(dsimp only;omega)))
 have hly:i<p.args.length:=by omega
 rw[List.drop_eq_getElem_cons hlt,List.drop_eq_getElem_cons hly,qzy hGg]at he
 have hqg:=ha.args _ (List.getElem_mem hlt)
 obtain⟨t,ht⟩:∃t,uF G p.args[i]=t:=⟨_,rfl⟩
 have hpush:=fun h3:(uF G p.args[i]).kind=3=>qxB hGg (p:=p.args[i]) (q:=a.args[i]) h3 hqg
 rw[ht]at he hpush
 simp(disch:=omega)[hlt,hly]
 refine(qmX G _ (by omega) _).go fun n1 hn1=>?_
 rw[ht]
 by_cases hk3:t.kind=3
 ·rw[if_pos hk3]at he
  simp(disch:=omega)[hlt,hly,hk3]
  refine zF ?_
  have hcan:G.length+1<=2^30:=by omega
  simp(disch:=omega)[apL,vE,hcan,qk (show i<2^62 by omega)]
  refine⟨⟨i+1,n1+1,G++[(t.s,a.args[i])]⟩,by dsimp only;omega,⟨by dsimp only;omega,by dsimp only;omega,by dsimp only;rw[List.length_append];simp only[List.length_singleton];omega,hpush hk3,he⟩,by simp[FT.Le,Wk],?_⟩
  have hlen:(G++[(t.s,a.args[i])]).length=G.length+1:=by simp
  dsimp only
  rw[hlen]
  exact zo (hHe _) (by first|exact qi.refl' _|(repeat (first|exact qi.refl (by first|omega|(dsimp only;omega))|refine qi.cons' (hHe _) (by first|omega|(dsimp only;omega)) (by first|omega|(dsimp only;omega)) ?_)))
 ·rw[if_neg hk3]at he
  cases hq:eqT t a.args[i]
  ·have hq':=hq
   simp only[eqT]at hq'
   simp[hq]at he
   simp(disch:=omega)[hlt,hly,hk3,hq']
   exact finW (.inl rfl) (by first|exact qi.refl' _|(repeat (first|exact qi.refl (by first|omega|(dsimp only;omega))|refine qi.cons' hH (by first|omega|(dsimp only;omega)) (by first|omega|(dsimp only;omega)) ?_))) (hk2 he.symm _ (by first|omega|(dsimp only;omega)) _)
  ·have hq':=hq
   simp only[eqT]at hq'
   simp[hq]at he
   simp(disch:=omega)[hlt,hly,hk3,hq',qk (show i<2^62 by omega)]
   exact⟨⟨i+1,n1+1,G⟩,by dsimp only;omega,⟨by dsimp only;omega,by dsimp only;omega,by dsimp only;omega,hGg,he⟩,by simp[FT.Le,Wk],zo (hHe _) (by first|exact qi.refl' _|(repeat (first|exact qi.refl (by first|omega|(dsimp only;omega))|refine qi.cons' (hHe _) (by first|omega|(dsimp only;omega)) (by first|omega|(dsimp only;omega)) ?_)))⟩
theorem qvC{K:qm}{t:qn}(hb:t.kind=3->(qY t.s K).isSome=true):uF K t=zi K t:=by
 unfold uF zi
 by_cases h:t.kind=3
 ·obtain⟨v,hv⟩:=Option.isSome_iff_exists.1 (hb h)
  rw[if_pos h,if_pos h,hv];rfl
 ·rw[if_neg h,if_neg h]
theorem qje(K:qm)(ow:Own)(hKl:K.length<=2^20)(t:qn)(hb:t.kind=3->(qY t.s K).isSome=true):qh 120 [.sl (K.map wg) ow,qW t] (qW (zi K t)):=by
 rw[<-qvC hb]
 exact qmX K ow (by omega) t
theorem qjg(K:qm)(ow:Own)(hKl:K.length<=2^20)(a:qd)(hA:a.args.length<=2^20)(hb:uL K a.args)(H:qa){kv kp:HP}(hk:∀n,H.next<=n->kv (qg (qN K a)) ⟨H.objs,n⟩):
  cP E0 F0 78 [.sl (K.map wg) ow,qg a] H kv kp:=by
 refine qdZ c78 fun hH=>⟨Nat.le_of_ble_eq_true rfl,?_⟩
 obtain⟨N,hN⟩:∃N,H.next=N:=⟨_,rfl⟩
 obtain⟨ob0,nx0⟩:=H
 dsimp only at hN hk
 subst hN
 simp(disch:=omega)[b78]
 refine qB (σ:=NNFl) (fun q=>(.nd (.sl (K.map wg) ow) (.nd .bot (.nd (.ptr nx0 0) .nil .nil) (.nd (.ptr (nx0+1+1) 0) .nil .nil)) (.nd .bot (.nd (.ptr (nx0+1) 0) .nil .nil) (.nd (.int q.i) .nil .nil)))) (fun q=>⟨q.ob,q.n⟩) (fun q=>a.args.length - q.i)
  (fun q=>vS ⟨(nx0+1+1,.cells [.str a.pred,.sl (wW (zi K) q.xs) q.own])::(nx0+1,.cells [S [],Nl])::(nx0,.cells [.str a.pred,ql a.args])::ob0,nx0+1+1+1⟩ 3 q.i q.own q.ob q.n/\q.i<=a.args.length/\q.xs.length=q.i/\q.xs++a.args.drop q.i=a.args)
  ⟨0,nx0+1+1+1,[],.full,(nx0+1+1,.cells [.str a.pred,Nl])::(nx0+1,.cells [S [],Nl])::(nx0,.cells [.str a.pred,ql a.args])::ob0⟩ ⟨.inl ⟨rfl,rfl,Nat.le_refl _⟩,Nat.zero_le _,rfl,by simp⟩ (by simp[FT.Le,Wk]) ⟨HWk.refl _,fun h=>h⟩ ?_
 rintro⟨i,n,xs,own,ob⟩ ⟨hr,hi,hxl,hxs⟩ hok
 dsimp only at hr hi hok hxl hxs
 have hfin:∀(ow:Own)(H':qa),HWk H' ⟨ob0,n⟩->xs=a.args->∃v',Wk (LV.agg [.str a.pred,.sl (wW (zi K) xs) ow]) v'/\∃H'',HWk H' H''/\(H'.Ok->H''.Ok)/\kv v' H'':=by
  intro ow H' hw hx
  have hn0:nx0<=n:=by
   rcases hr with⟨_,_,h3⟩|⟨t,_,g1,g2,_⟩
   ·dsimp only at h3;omega
   ·dsimp only at g1;omega
  refine⟨qg (qN K a),.inr (.inl ?_),⟨ob0,n⟩,hw,fun _=>qx.mono hH hn0,hk n hn0⟩
  subst hx
  simp[qN,LV.strip,qdw,List.map_map,Function.comp_def]
 by_cases hlt:i<a.args.length
 case neg=>
  have hall:xs=a.args:=by rw[List.drop_eq_nil_of_le (by omega),List.append_nil]at hxs;exact hxs
  rcases hr with⟨rfl,rfl,h3⟩|⟨t,rfl,g1,g2,rfl⟩
  ·dsimp only at h3
   simp(disch:=omega)[hlt,zU]
   refine hfin _ _ ⟨Nat.le_refl _,fun i x hx=>?_⟩ hall
   have:i<nx0:=hH.look hx
   rw[qe (by omega),qe (by omega),qe (by omega)]
   exact hx
  ·dsimp only at g1
   simp(disch:=omega)[hlt,zU]
   refine hfin _ _ ⟨Nat.le_refl _,fun i x hx=>?_⟩ hall
   have:i<nx0:=hH.look hx
   rw[qe (by omega),qe (by omega),qe (by omega),qe (by omega)]
   exact hx
 have hX:=qqp (zi K) xs
 obtain⟨X,hXe⟩:∃X,wW (zi K) xs=X:=⟨_,rfl⟩
 have hXl:X.length=i:=by rw[<-hXe,List.length_map];exact hxl
 have hnew:wW (zi K) (xs++[a.args[i]])=X++[qW (zi K a.args[i])]:=by rw[<-hXe];simp[wW]
 have hxl2:(xs++[a.args[i]]).length=i+1:=by simp[hxl]
 have hxs2:(xs++[a.args[i]])++a.args.drop (i+1)=a.args:=by
  rw[List.append_assoc]
  show xs++(a.args[i]::a.args.drop (i+1))=a.args
  rw[<-List.drop_eq_getElem_cons hlt]
  exact hxs
 rw[hXe]at hX hr
 have hcan:i+1<=2^30:=by omega
 have hpl:=qje K ow hKl a.args[i] (hb _ (List.getElem_mem hlt))
 rcases hr with⟨rfl,rfl,h3⟩|⟨t,rfl,g1,g2,rfl⟩
 ·dsimp only at h3
  simp(disch:=omega)[hlt]
  refine hpl.go fun n2 hn2=>?_
  simp(disch:=omega)
  refine zF ?_
  simp(disch:=omega)
  rw[qiQ hX rfl (by rw[hXl];exact hcan) (by omega)]
  simp(disch:=omega)[hXl,qk (show i<2^62 by omega)]
  refine⟨⟨i+1,n2+1,xs++[a.args[i]],.tok n2,(n2,.tok (i+1) 3)::(nx0+1+1,.cells [.str a.pred,.sl (wW (zi K) (xs++[a.args[i]])) (.tok n2)])::(nx0+1,.cells [S [],Nl])::(nx0,.cells [.str a.pred,ql a.args])::ob0⟩,by dsimp only;omega,⟨.inr ⟨n2,rfl,by dsimp only;omega,Nat.lt_succ_self _,rfl⟩,by dsimp only;omega,hxl2,hxs2⟩,by simp[FT.Le,Wk],?_⟩
  dsimp only
  rw[hnew]
  exact⟨HWk.refl _,fun h=>h⟩
 ·dsimp only at g1
  simp(disch:=omega)[hlt]
  refine hpl.go fun n2 hn2=>?_
  simp(disch:=omega)
  refine zF ?_
  simp(disch:=omega)
  rw[qiP hX rfl (by rw[hXl];exact hcan) (by omega) (by omega) (by rw[hXl];simp[look])]
  simp(disch:=omega)[hXl,qk (show i<2^62 by omega)]
  refine⟨⟨i+1,n2,xs++[a.args[i]],.tok t,(t,.tok (i+1) 3)::(nx0+1+1,.cells [.str a.pred,.sl (wW (zi K) (xs++[a.args[i]])) (.tok t)])::(nx0+1,.cells [S [],Nl])::(nx0,.cells [.str a.pred,ql a.args])::ob0⟩,by dsimp only;omega,⟨.inr ⟨t,rfl,g1,by dsimp only;omega,rfl⟩,by dsimp only;omega,hxl2,hxs2⟩,by simp[FT.Le,Wk],?_⟩
  dsimp only
  rw[hnew]
  exact⟨HWk.refl _,fun h=>h⟩
structure NNRs where
 i:Nat
 n:Nat
def qhy:qr:=match b94.body with
 |.seq _ (.seq r _)=>r
 |_=>.bad
theorem qtx(c:qf)(hb:c.body.length<2^40)(K:qm)(hn:(z6 K).Nodup)(hargs:∀x∈c.body,x.atom.args.length<=2^20)(hok:∀x∈c.body,x.kind=2->qI (qN K x.atom)=true)
  (F:List Stp) (fo am:Nat) (ownF:Own) (ko t1 t3 t5 t6:Nat) (k:Int) (z2 z4:LV) (ob:List (Nat×qc)) (n:Nat) (hF:zR ob fo am F ownF) (hko:look ko ob=some (.um (qG K))) (l3:look t3 ob=some (.cells [.ptr fo 0])) (l5:look t5 ob=some (.cells (yY c)))
  {KX:XP} (hx1:gd F K c.body=true->∀n',n<=n'->KX .normal ((.nd (.map ko) (.nd (.ptr t1 0) (.nd (.ptr t3 0) .nil (.nd .bot .nil (.nd .bot .nil (.nd (.int c.body.length) .nil .nil)))) (.nd (.ptr t5 0) (.nd .bot .nil (.nd .bot .nil (.nd (zA c.body) .nil .nil))) .nil)) (.nd .bot (.nd .bot .nil (.nd .bot .nil (.nd .bot .nil (.nd (.sc (.bool false)) .nil .nil)))) (.nd (.ptr t6 0) (.nd .bot .nil (.nd .bot .nil (.nd (.int c.body.length) .nil .nil))) .nil)))) ⟨ob,n'⟩)
  (hx2:gd F K c.body=false->∀t' H' n',n<=n'->HWk H' ⟨ob,n'⟩->(H'.Ok->qa.Ok ⟨ob,n'⟩)->KX .ret t' H'):
  lP E0 F0 qhy ((.nd (.map ko) (.nd (.ptr t1 0) (.nd (.ptr t3 0) .nil .nil) (.nd (.ptr t5 0) .nil .nil)) (.nd .bot .nil (.nd (.ptr t6 0) .nil .nil)))) ⟨ob,n⟩ KX:=by
 refine qgk fun hH=>ur ?_
 have b3:t3<n:=hH.look l3
 have b5:t5<n:=hH.look l5
 have bf:fo<n:=hH.look hF.pair
 have bm:am<n:=hH.look hF.map
 have bk:ko<n:=hH.look hko
 simp(disch:=omega)[qhy,b94,l5]
 obtain⟨A,hA⟩:∃A,gd F K c.body=A:=⟨_,rfl⟩
 rw[hA]at hx1 hx2
 refine qB (σ:=NNRs) (fun q=>(.nd (.map ko) (.nd (.ptr t1 0) (.nd (.ptr t3 0) .nil (.nd .bot .nil (.nd .bot .nil (.nd (.int q.i) .nil .nil)))) (.nd (.ptr t5 0) (.nd .bot .nil (.nd .bot .nil (.nd (zA c.body) .nil .nil))) .nil)) (.nd .bot .nil (.nd (.ptr t6 0) (.nd .bot .nil (.nd .bot .nil (.nd (.int c.body.length) .nil .nil))) .nil)))) (fun q=>⟨ob,q.n⟩) (fun q=>c.body.length - q.i)
  (fun q=>n<=q.n/\q.i<=c.body.length/\gd F K (c.body.drop q.i)=A) ⟨0,n⟩ ⟨Nat.le_refl _,Nat.zero_le _,by simpa using hA⟩ (by simp[FT.Le,Wk]) ⟨HWk.refl _,fun h=>h⟩ ?_
 rintro⟨i,m⟩ ⟨hm,hi,he⟩ hok1
 dsimp only at hm hi he hok1
 by_cases hlt:i<c.body.length
 case neg=>
  rw[List.drop_eq_nil_of_le (by omega)]at he
  have hA1:A=true:=he.symm
  obtain rfl:i=c.body.length:=by omega
  simp(disch:=omega)[hlt]
  exact hx1 hA1 m hm
 rw[List.drop_eq_getElem_cons hlt]at he
 simp only[gd]at he
 have hback:∀(m2:Nat)(x:qc),m+1<=m2->HWk ⟨(m,x)::ob,m2⟩ ⟨ob,m2⟩/\(qa.Ok ⟨(m,x)::ob,m2⟩->qa.Ok ⟨ob,m2⟩):=fun m2 x h2=>zo (H:=⟨ob,m⟩) hok1 (qi.cons hok1 (Nat.le_refl _) (qi.refl (Nat.le_refl _)) (by dsimp only;omega))
 have hmem:c.body[i]∈c.body:=List.getElem_mem hlt
 have hnx:IntKind.wrap .i64 ((i:Int)+1)=((i+1:Nat):Int):=qk (show i<2^62 by omega)
 by_cases k1:c.body[i].kind=1
 ·rw[if_pos k1]at he
  simp(disch:=omega)[hlt,k1,qk (show i<2^62 by omega)]
  obtain⟨g1,g2⟩:=hback (m+1) (.cells (uc c.body[i])) (Nat.le_refl _)
  exact⟨⟨i+1,m+1⟩,by dsimp only;omega,⟨by dsimp only;omega,by dsimp only;omega,he⟩,by simp[FT.Le,Wk],by simpa [uc,k1] using g1,by simpa [uc,k1] using g2⟩
 rw[if_neg k1]at he
 by_cases k2:c.body[i].kind=2
 ·rw[if_pos k2]at he
  simp(disch:=omega)[hlt,k1,k2,l3,hF.pair]
  refine qhh c.body[i].atom (hargs _ hmem) K hn ko _ (by dsimp only;rw[qe (by omega)];exact hko) fun m2 hm2=>?_
  dsimp only at hm2
  simp(disch:=omega)[l3,hF.pair]
  refine(qep _ (hok _ hmem k2)).go fun m3 hm3=>?_
  simp(disch:=omega)[l3,hF.pair]
  rw[lkM (by rw[qe (by omega)];exact hF.map)]
  have hh:qF (qt (qN K c.body[i].atom)) F=(uy (qt (qN K c.body[i].atom)) (zV F 0)).isSome:=rfl
  cases hl:uy (qt (qN K c.body[i].atom)) (zV F 0) with
  |some v=>
   rw[hh,hl]at he
   have hA0:A=false:=he.symm
   simp(disch:=omega)[l3,hF.pair]
   obtain⟨g1,g2⟩:=hback m3 (.cells (uc c.body[i])) (by omega)
   exact hx2 hA0 _ _ m3 (by omega) (by simpa [uc,k2] using g1) (by simpa [uc,k2] using g2)
  |none=>
   rw[hh,hl]at he
   simp(disch:=omega)[l3,hF.pair,qk (show i<2^62 by omega)]
   obtain⟨g1,g2⟩:=hback m3 (.cells (uc c.body[i])) (by omega)
   exact⟨⟨i+1,m3⟩,by dsimp only;omega,⟨by dsimp only;omega,by dsimp only;omega,by simpa using he⟩,by simp[FT.Le,Wk],by simpa [uc,k2] using g1,by simpa [uc,k2] using g2⟩
 rw[if_neg k2]at he
 simp(disch:=omega)[hlt,k1,k2]
 refine qne c.body[i] K hn ko _ (by dsimp only;rw[qe (by omega)];exact hko) fun m2 hm2=>?_
 dsimp only at hm2
 cases hc:qaO K c.body[i]
 ·rw[hc]at he
  have hA0:A=false:=he.symm
  simp(disch:=omega)
  obtain⟨g1,g2⟩:=hback m2 (.cells (uc c.body[i])) hm2
  exact hx2 hA0 _ _ m2 (by omega) g1 g2
 ·rw[hc]at he
  simp(disch:=omega)[qk (show i<2^62 by omega)]
  obtain⟨g1,g2⟩:=hback m2 (.cells (uc c.body[i])) hm2
  exact⟨⟨i+1,m2⟩,by dsimp only;omega,⟨by dsimp only;omega,by dsimp only;omega,by simpa using he⟩,by simp[FT.Le,Wk],g1,g2⟩
def qbN(ob:List (Nat×qc))(v:LV)(frm:List Int):Prop:=(v=Nl/\frm=[])\/∃ao cs,v=.asl ao 0 frm.length/\look ao ob=some (.arr 1 cs)/\frm.length<=cs.length/\cs.take frm.length=frm.map LV.int
theorem qui{ob:List (Nat×qc)}{v:LV}{frm:List Int}(h:qbN ob v frm)(hl:frm.length<=2^40){n:Nat}{kv kp:HP}(hk:kv (.sl (frm.map LV.int) .no) ⟨ob,n⟩):cP E0 F0 95 [v] ⟨ob,n⟩ kv kp:=by
 rcases h with⟨rfl,rfl⟩|⟨ao,cs,rfl,h1,h2,h3⟩
 ·exact qnf [] .full (by simp) _ hk
 ·exact qng ⟨ob,n⟩ ao frm.length cs frm h1 h2 h3 hl hk
def qkV:qr:=match b94.body with
 |.seq h _=>h
 |_=>.bad
def qhb:qr:=match b94.body with
 |.seq _ (.seq _ t)=>t
 |_=>.bad
theorem qrG:b94.body=.seq qkV (.seq qhy qhb):=rfl
theorem qbN.len{ob:List (Nat×qc)}{v:LV}{frm:List Int}(h:qbN ob v frm)(H:qa):ze H 1 v=some frm.length:=by
 rcases h with⟨rfl,rfl⟩|⟨ao,cs,rfl,_⟩<;>rfl
def qcX:qc->Bool
 |.cells _=>true
 |.map _=>true
 |.tok _ _=>true
 |_=>false
def wc(L ob:List (Nat×qc)):Prop:=∀p∈L,look p.1 ob=some p.2
structure qek(σ:Type) where
 fn:FuncId
 cap:List LV
 Stat:List (Nat×qc)
 At:List (Nat×qc)->σ->(Nat->Prop)->Prop
 step:σ->qd->List Int->σ
 lim:σ->Prop
 lim_step:∀s a frm,lim s->lim (step s a frm)
 at_look:∀(ob:List (Nat×qc))(s:σ)(S:Nat->Prop)(i:Nat),At ob s S->S i->∃x,look i ob=some x/\qcX x=true
 at_keep:∀(ob ob':List (Nat×qc))(s:σ)(S:Nat->Prop),At ob s S->(∀i,S i->look i ob'=look i ob)->At ob' s S
 ok:∀(ob:List (Nat×qc))(n:Nat)(s:σ)(S:Nat->Prop)(a:qd)(frm:List Int)(kv kp:HP),lim s->qI a=true->At ob s S->wc Stat ob->(∀p∈Stat,¬S p.1)->qU ob ->
  (∀ob' n' S',n<=n'->At ob' (step s a frm) S'->(∀i,S' i->S i\/n<=i)->qU ob'->(∀i,i<n->¬S i->look i ob'=look i ob)->kv (.tup []) ⟨ob',n'⟩) ->
  cP E0 F0 fn ([qg a,.sl (frm.map LV.int) .no]++cap) ⟨ob,n⟩ kv kp
structure ChI where
 c:qf
 F:List Stp
 fo:Nat
 am:Nat
 ownF:Own
 ow:Own
 t1:Nat
 t2:Nat
 t3:Nat
 t4:Nat
 t5:Nat
 t6:Nat
 L:List (Nat×qc)
structure ChOk{σ:Type}(D:qek σ)(I:ChI):Prop where
 good:zq I.c
 hDL:∀p∈D.Stat,p∈I.L
 pl:∀p∈I.L,qcX p.2=true
 hF:∀ob,wc I.L ob->zR ob I.fo I.am I.F I.ownF
 Fg:∀s∈I.F,qD s.atom
 Fl:I.F.length<=2^20
 t1L:∀p∈I.L,p.1≠I.t1
 e2:(I.t2,qc.cells [.sl ((qJ I.c.body).map qg) I.ow])∈I.L
 e3:(I.t3,qc.cells [.ptr I.fo 0])∈I.L
 e4:(I.t4,qc.cells [.fn (.func 94) [] [.ptr I.t1 0,.ptr I.t2 0,.ptr I.t3 0,.ptr I.t4 0,.ptr I.t5 0,.ptr I.t6 0]])∈I.L
 e5:(I.t5,qc.cells (yY I.c))∈I.L
 e6:(I.t6,qc.cells [.fn (.func D.fn) [] D.cap])∈I.L
structure qel{σ:Type}(D:qek σ)(I:ChI)(ob:List (Nat×qc))(G:σ)(S:Nat->Prop)(frm:List Int)(fv:LV):Prop where
 st:wc I.L ob
 at_:D.At ob G S
 sep:∀p∈I.L,¬S p.1
 c1:look I.t1 ob=some (.cells [fv])
 t1S:¬S I.t1
 fr:qbN ob fv frm
 ni:qU ob
def qlR(I:ChI)(n:Nat)(S:Nat->Prop)(fv:LV)(ob ob':List (Nat×qc)):Prop:=∀i,i<n->¬S i->i≠I.t1->(∀a o l,fv=.asl a o l->i≠a)->look i ob'=look i ob
section
variable{σ:Type}{D:qek σ}{I:ChI}
theorem qel.notS(hC:ChOk D I){ob:List (Nat×qc)}{G:σ}{S:Nat->Prop}{frm:List Int}{fv:LV}(h:qel D I ob G S frm fv){i:Nat}{x:qc}(hl:look i ob=some x)(hx:qcX x=false):¬S i:=fun hs=>by
 obtain⟨y,h1,h2⟩:=D.at_look _ _ _ _ h.at_ hs
 rw[hl]at h1
 cases h1
 rw[hx]at h2
 cases h2
theorem qbN.keep{ob ob':List (Nat×qc)}{v:LV}{frm:List Int}(h:qbN ob v frm)(hk:∀a o l,v=.asl a o l->look a ob'=look a ob):qbN ob' v frm:=by
 rcases h with h|⟨ao,cs,h1,h2,h3⟩
 ·exact .inl h
 ·exact .inr ⟨ao,cs,h1,by rw[hk _ _ _ h1];exact h2,h3⟩
theorem quk(hC:ChOk D I)(K:qm)(frm:List Int)(G:σ)(hK:uq K)(hb:∀p∈qJ I.c.body,uL K p.args)(hpos:(qJ I.c.body).length=frm.length)(hfl:frm.length<=2^20)(hlim:D.lim G)
  (ob:List (Nat×qc)) (n:Nat) (S:Nat->Prop) (fv:LV) (ko:Nat) (h:qel D I ob G S frm fv) (hko:look ko ob=some (.um (qG K))) {kv kp:HP}
  (hk:∀ob' n' S' fv',n<=n'->qel D I ob' (jd D.step I.c (jb I.F I.c [] K frm) G) S' frm fv'->(∀i,S' i->S i\/n<=i)->(∀a o l,fv'=.asl a o l->n<=a\/∃o2 l2,fv=.asl a o2 l2)->qlR I n S fv ob ob'->kv (.tup []) ⟨ob',n'⟩):
  cP E0 F0 94 [.map ko,.ptr I.t1 0,.ptr I.t2 0,.ptr I.t3 0,.ptr I.t4 0,.ptr I.t5 0,.ptr I.t6 0] ⟨ob,n⟩ kv kp:=by
 refine qfi c94 (Nat.le_of_ble_eq_true rfl) fun hH=>?_
 rw[qrG]
 have hF:=hC.hF ob h.st
 have l1:=h.c1
 have l2:look I.t2 ob=some (.cells [.sl ((qJ I.c.body).map qg) I.ow]):=h.st _ hC.e2
 have l3:look I.t3 ob=some (.cells [.ptr I.fo 0]):=h.st _ hC.e3
 have l5:look I.t5 ob=some (.cells (yY I.c)):=h.st _ hC.e5
 have l6:look I.t6 ob=some (.cells [.fn (.func D.fn) [] D.cap]):=h.st _ hC.e6
 have b1:I.t1<n:=hH.look l1
 have b5:I.t5<n:=hH.look l5
 have b6:I.t6<n:=hH.look l6
 obtain⟨cp1,cp2,cp3⟩:=wl hC.good.ok
 obtain⟨g1,g2⟩:=hC.good.leaf hK hb
 have hargs:∀x∈I.c.body,x.atom.args.length<=2^20:=fun x hx=>by have:=qgg (cp3 x hx);omega
 have hh:I.c.head.args.length<=2^20:=by have:=(wK cp1).1;omega
 have hlt:¬(frm.length:Int)<(((qJ I.c.body).length:Nat):Int):=by omega
 simp(disch:=omega)
 refine vB (ur ?_)
 simp(disch:=omega)[qkV,b94,l1,l2]
 refine⟨frm.length,h.fr.len ⟨ob,n⟩,?_⟩
 simp(disch:=omega)[l2,hlt]
 show lP E0 F0 (.seq qhy qhb) _ _ _
 refine vA (t':=(.nd (.map ko) (.nd (.ptr I.t1 0) (.nd (.ptr I.t3 0) .nil .nil) (.nd (.ptr I.t5 0) .nil .nil)) (.nd .bot .nil (.nd (.ptr I.t6 0) .nil .nil)))) (fun l h=>by cases h) (by simp[FT.Le,Wk]) (HWk.refl _) (fun h=>h) ?_
 refine vB (qtx I.c (by omega) K hK.nd hargs (fun x hx hk2=>(g1 x hx hk2).1) I.F I.fo I.am I.ownF ko I.t1 I.t3 I.t5 I.t6 0 .bot .bot ob n hF hko l3 l5 (fun hr n2 hn2=>?_) (fun hr t' H' n2 hn2 hwk hok2=>?_))
 ·show lP E0 F0 qhb _ _ _
  refine ur ?_
  simp(disch:=omega)[qhb,b94,l1,l5,l6]
  refine qhh I.c.head hh K hK.nd ko ⟨ob,n2⟩ hko fun n3 hn3=>?_
  dsimp only at hn3
  simp(disch:=omega)[l1,l5,l6]
  refine qui h.fr (by omega) ?_
  simp(disch:=omega)[l1,l5,l6]
  have e:jd D.step I.c (jb I.F I.c [] K frm) G=D.step G (qN K I.c.head) frm:=by simp[jd,jb,hr]
  rw[e]at hk
  refine D.ok ob n3 G S (qN K I.c.head) frm _ _ hlim g2.1 h.at_ (fun p hp=>h.st p (hC.hDL p hp)) (fun p hp=>h.sep p (hC.hDL p hp)) h.ni fun ob' n4 S' hn4 hA' hS' hni hsame=>?_
  simp(disch:=omega)[zw]
  have hst:wc I.L ob':=fun p hp=>by
   rw[hsame _ ?_ (h.sep p hp)]
   ·exact h.st p hp
   ·have:p.1<n:=hH.look (h.st p hp)
    omega
  refine⟨_,HWk.refl _,fun h=>h,hk ob' n4 S' fv (by omega) ⟨hst,hA',fun p hp hs=>?_,?_,fun hs=>?_,h.fr.keep fun a o l he=>?_,hni⟩ (fun i hi=>(hS' i hi).imp id fun h=>by omega) (fun a o l he=>.inr ⟨o,l,he⟩) fun i hi h1 _ _=>hsame i (by omega) h1⟩
  ·have:p.1<n:=hH.look (h.st p hp)
   rcases hS' _ hs with h1|h1
   ·exact h.sep p hp h1
   ·omega
  ·rw[hsame _ (by omega) h.t1S];exact l1
  ·rcases hS' _ hs with h1|h1
   ·exact h.t1S h1
   ·omega
  ·rcases h.fr with⟨e1,_⟩|⟨ao,cs,e1,e2,_⟩
   ·rw[e1]at he;cases he
   ·rw[e1]at he
    simp only[LV.asl.injEq]at he
    obtain⟨rfl,rfl,rfl⟩:=he
    have:=hH.look e2
    dsimp only at this
    exact hsame _ (by omega) (h.notS hC e2 rfl)
 ·have e:jd D.step I.c (jb I.F I.c [] K frm) G=G:=by simp[jd,jb,hr]
  rw[e]at hk
  show vU E0 b94.res t' H' _
  rw[show b94.res=[] from rfl,zw]
  exact⟨_,hwk,hok2,hk ob n2 S fv hn2 h (fun i hi=>.inl hi) (fun a o l he=>.inr ⟨o,l,he⟩) fun _ _ _ _ _=>rfl⟩
end
theorem qwP{i j:Nat}(h:i≠j)(l:List (Nat×qc)):look i (wa j l)=look i l:=by rw[qaG,if_neg h]
theorem qwO{j:Nat}{l:List (Nat×qc)}{i:Nat}{x:qc}(h:look i (wa j l)=some x):look i l=some x:=by
 rw[qaG]at h
 split at h
 ·cases h
 ·exact h
theorem qU.del{ob:List (Nat×qc)}(h:qU ob)(m:Nat):qU (wa m ob):=qeF.2 fun i y hy=>qeF.1 h i y (qwO hy)
theorem qxF{ob:List (Nat×qc)}{v:LV}{frm:List Int}(h:qbN ob v frm)(hl:frm.length<=2^20)(j:Int)(n:Nat):
  ∃ob',qck ⟨ob,n⟩ 1 v (.sl [.int j] .full)=some (.asl n 0 (frm.length+1),⟨ob',n+1⟩)/\qbN ob' (.asl n 0 (frm.length+1)) (frm++[j])/\(qU ob->qU ob')/\∀i,i≠n->(∀a o l,v=.asl a o l->i≠a)->look i ob'=look i ob:=by
 rcases h with⟨rfl,rfl⟩|⟨ao,cs,rfl,h1,h2,h3⟩
 ·refine⟨(n,.arr 1 [.int j])::ob,rfl,.inr ⟨n,[.int j],rfl,qq _ _ _,by simp,by simp⟩,fun hI=>hI.cons _ rfl,fun i hi _=>qe hi _ _⟩
 ·have e:qaf ⟨ob,n⟩ 1 (.asl ao 0 frm.length)=some (cs.take (frm.length*1),⟨wa ao ob,n⟩,frm.length):=by
   simp only[qaf,h1]
   rw[if_pos ⟨trivial,by omega⟩]
   rfl
  have e2:qcS ⟨ob,n⟩ 1 (.sl [.int j] .full)=some ([.int j],1):=rfl
  refine⟨(n,.arr 1 (cs.take (frm.length*1)++[.int j]))::wa ao ob,?_,.inr ⟨n,_,by simp,qq _ _ _,?_,?_⟩,fun hI=>(hI.del _).cons _ rfl,fun i hi hne=>?_⟩
  ·unfold qck
   rw[e,e2]
   simp only
   rw[if_neg (by omega),if_pos ⟨by omega,by omega⟩]
   rfl
  ·simp only[List.length_append,List.length_take,List.length_cons,List.length_nil]
   omega
  ·rw[Nat.mul_one,h3,List.take_of_length_le (by simp),List.map_append]
   rfl
  ·rw[qe hi,qwP (hne ao 0 frm.length rfl)]
structure NNCh(σ:Type) where
 i:Nat
 n:Nat
 ob:List (Nat×qc)
 G:σ
 S:Nat->Prop
 fv:LV
section
variable{σ:Type}{D:qek σ}{I:ChI}
def qeL(F:List Stp)(c:qf)(p:qd)(ps:List qd)(K:qm)(frm:List Int)(i:Nat):List (qm×List Int):=((List.range F.length).drop i).flatMap fun j=>match F[j]? with
  |some s=>match zf K p s.atom with
   |some R=>jb F c ps R (frm++[(j:Int)])
   |none=>[]
  |none=>[]
theorem qpu(F:List Stp)(c:qf)(p:qd)(ps:List qd)(K:qm)(frm:List Int){i:Nat}(h:i<F.length):qeL F c p ps K frm i=(match zf K p F[i].atom with
   |some R=>jb F c ps R (frm++[(i:Int)])
   |none=>[])++qeL F c p ps K frm (i+1):=by
 unfold qeL
 rw[List.drop_eq_getElem_cons (by simpa using h),List.flatMap_cons]
 congr 1
 rw[List.getElem_range,List.getElem?_eq_getElem h]
theorem qxM{step:σ->qd->List Int->σ}{c:qf}(l m:List (qm×List Int))(s:σ):jd step c (l++m) s=jd step c m (jd step c l s):=List.foldl_append ..
theorem qpW(c:qf):∀(l:List (qm×List Int))(s:σ),D.lim s->D.lim (jd D.step c l s)
 |[],_,h=>h
 |x::l,s,h=>qpW c l _ (D.lim_step s _ _ h)
theorem qnh(hC:ChOk D I):∀(ps:List qd)(don:List qd)(K:qm)(frm:List Int)(G:σ),qJ I.c.body=don++ps->don.length=frm.length->uq K->(∀p∈don,uL K p.args)->D.lim G ->
  ∀(ob:List (Nat×qc))(n:Nat)(S:Nat->Prop)(fv:LV)(ko:Nat),qel D I ob G S frm fv->look ko ob=some (.um (qG K))->∀{kv kp:HP},
  (∀ob' n' S' fv',n<=n'->qel D I ob' (jd D.step I.c (jb I.F I.c ps K frm) G) S' frm fv'->(∀i,S' i->S i\/n<=i)->(∀a o l,fv'=.asl a o l->n<=a\/∃o2 l2,fv=.asl a o2 l2)->qlR I n S fv ob ob'->kv (.tup []) ⟨ob',n'⟩) ->
  cP E0 F0 94 [.map ko,.ptr I.t1 0,.ptr I.t2 0,.ptr I.t3 0,.ptr I.t4 0,.ptr I.t5 0,.ptr I.t6 0] ⟨ob,n⟩ kv kp
 |[],don,K,frm,G,hp,hd,hK,hb,hlim,ob,n,S,fv,ko,h,hko,_,_,hk=>by
  rw[List.append_nil]at hp
  have hpl:(qJ I.c.body).length<=5:=by
   obtain⟨_,h2,_⟩:=wl hC.good.ok
   unfold qJ
   rw[List.length_map]
   exact Nat.le_trans (List.length_filter_le _ _) h2
  exact quk hC K frm G hK (by rw[hp];exact hb) (by rw[hp,hd]) (by rw[<-hd,<-hp];omega) hlim ob n S fv ko h hko hk
 |p::ps,don,K,frm,G,hp,hd,hK,hb,hlim,ob,n,S,fv,ko,h,hko,kv,kp,hk=>by
  have hpl:(qJ I.c.body).length<=5:=by
   obtain⟨_,h2,_⟩:=wl hC.good.ok
   unfold qJ
   rw[List.length_map]
   exact Nat.le_trans (List.length_filter_le _ _) h2
  have hpl2:(qJ I.c.body).length=frm.length+(ps.length+1):=by rw[hp,List.length_append,hd,List.length_cons]
  have hget:(qJ I.c.body)[frm.length]? = some p:=by rw[hp,List.getElem?_append_right (by omega),hd];simp
  have hpok:qI p=true:=hC.good.posOk p (by rw[hp];simp)
  refine qfi c94 (Nat.le_of_ble_eq_true rfl) fun hH=>?_
  rw[qrG]
  have hF:=hC.hF ob h.st
  have l1:=h.c1
  have l2:look I.t2 ob=some (.cells [.sl ((qJ I.c.body).map qg) I.ow]):=h.st _ hC.e2
  have l3:look I.t3 ob=some (.cells [.ptr I.fo 0]):=h.st _ hC.e3
  have hlt:(frm.length:Int)<(((qJ I.c.body).length:Nat):Int):=by omega
  simp(disch:=omega)
  refine vB (ur ?_)
  simp(disch:=omega)[qkV,b94,l1,l2]
  refine⟨frm.length,h.fr.len ⟨ob,n⟩,?_⟩
  simp(disch:=omega)[l2,l3,hF.pair,hlt]
  obtain⟨A,hA⟩:∃A,jd D.step I.c (jb I.F I.c (p::ps) K frm) G=A:=⟨_,rfl⟩
  rw[hA]at hk
  refine qB (σ:=NNCh σ) (fun q=>(.nd (.map ko) (.nd (.ptr I.t1 0) (.nd (.ptr I.t3 0) .nil .nil) (.nd (.ptr I.t5 0) (.nd .bot .nil (.nd (.int I.F.length) .nil .nil)) .nil)) (.nd (.ptr I.t2 0) (.nd (.ptr I.t4 0) (.nd (.int frm.length) .nil .nil) .nil) (.nd (.ptr I.t6 0) (.nd .bot .nil (.nd (.int q.i) .nil .nil)) .nil)))) (fun q=>⟨q.ob,q.n⟩) (fun q=>I.F.length - q.i)
   (fun q=>n<=q.n/\q.i<=I.F.length/\D.lim q.G/\jd D.step I.c (qeL I.F I.c p ps K frm q.i) q.G=A/\qel D I q.ob q.G q.S frm q.fv/\(∀i,q.S i->S i\/n<=i)/\(∀a o l,q.fv=.asl a o l->n<=a\/∃o2 l2,fv=.asl a o2 l2)/\qlR I n S fv ob q.ob)
   ⟨0,n,ob,G,S,fv⟩ ⟨Nat.le_refl _,Nat.zero_le _,hlim,hA,h,fun i hi=>.inl hi,fun a o l he=>.inr ⟨o,l,he⟩,fun _ _ _ _ _=>rfl⟩ (by simp[FT.Le,Wk]) ⟨HWk.refl _,fun h=>h⟩ ?_
  rintro⟨i,m,ob1,G1,S1,fv1⟩ ⟨hm,hi,hlim1,hfold,h1,hS1,hfv1,hkept⟩ hok
  dsimp only at hm hi hlim1 hfold h1 hS1 hfv1 hkept hok
  by_cases hin:i<I.F.length
  case neg=>
   obtain rfl:i=I.F.length:=by omega
   have e:jd D.step I.c (qeL I.F I.c p ps K frm I.F.length) G1=G1:=by
    unfold qeL
    rw[List.drop_eq_nil_of_le (by simp)]
    rfl
   rw[e]at hfold
   simp(disch:=omega)[zw]
   exact⟨_,HWk.refl _,fun h=>h,hk ob1 m S1 fv1 hm (by rw[<-hfold];exact h1) hS1 hfv1 hkept⟩
  have hF1:=hC.hF ob1 h1.st
  have k1:=h1.c1
  have k2:look I.t2 ob1=some (.cells [.sl ((qJ I.c.body).map qg) I.ow]):=h1.st _ hC.e2
  have k3:look I.t3 ob1=some (.cells [.ptr I.fo 0]):=h1.st _ hC.e3
  have k4:=h1.st _ hC.e4
  dsimp only at k4
  have b1:I.t1<m:=hok.look k1
  have hge:(qJ I.c.body)[frm.length]'(by omega)=p:=by
   rw[List.getElem?_eq_getElem (by omega)]at hget
   exact Option.some.inj hget
  have hkn:ko<n:=hH.look hko
  have hko1:look ko ob1=some (.um (qG K)):=by
   rw[hkept ko hkn (h.notS hC hko rfl) (fun e=>by rw[e,l1]at hko;cases hko) (fun a o l he e=>?_)]
   ·exact hko
   ·rcases h.fr with⟨e1,_⟩|⟨ao,cs,e1,e2,_⟩
    ·rw[e1]at he;cases he
    ·rw[e1]at he
     simp only[LV.asl.injEq]at he
     rw[he.1,<-e,hko]at e2
     cases e2
  simp(disch:=omega)[hin,k2,k3,hF1.pair,hge,hpl2]
  refine qhj p I.F[i].atom (jo hpok) (jo (hC.Fg _ (List.getElem_mem hin)).1) _ ko K hko1 (fun i m l k n hl=>absurd hl (h1.ni _ _ _ _ _)) hK.nd (fun hbn=>?_) (fun R hbr=>?_)
  ·rw[qpu _ _ _ _ _ _ hin,hbn]at hfold
   simp(disch:=omega)[k2,k3,hF1.pair,qk (show i<2^62 by have:=hC.Fl;omega)]
   exact⟨⟨i+1,m,ob1,G1,S1,fv1⟩,by dsimp only;omega,⟨hm,by dsimp only;omega,hlim1,hfold,h1,hS1,hfv1,hkept⟩,by simp[FT.Le,Wk],HWk.refl _,fun h=>h⟩
  ·rw[qpu _ _ _ _ _ _ hin,hbr,qxM]at hfold
   have hfr1:qbN ((m+2,.um (qG R))::ob1) fv1 frm:=h1.fr.keep fun a o l he=>by
    rcases h1.fr with⟨e1,_⟩|⟨ao,cs,e1,e2,_⟩
    ·rw[e1]at he;cases he
    ·rw[e1]at he
     simp only[LV.asl.injEq]at he
     rw[<-he.1]
     have:=hok.look e2
     dsimp only at this
     exact qe (by omega) _ _
   have hfl:frm.length<=2^20:=by omega
   obtain⟨ob2,ha,hfr2,hni2,hkeep2⟩:=qxF hfr1 hfl (i:Int) (m+3)
   have hob2:∀j,j<m->(∀a o l,fv1=.asl a o l->j≠a)->look j ob2=look j ob1:=fun j hj hne=>by
    rw[hkeep2 j (by omega) hne,qe (by omega)]
   have hna:∀j x,look j ob1=some x->qcX x=true->∀a o l,fv1=.asl a o l->j≠a:=fun j x hx hpx a o l he e=>by
    rcases h1.fr with⟨e1,_⟩|⟨ao,cs,e1,e2,_⟩
    ·rw[e1]at he;cases he
    ·rw[e1]at he
     simp only[LV.asl.injEq]at he
     rw[he.1,<-e,hx]at e2
     cases e2
     cases hpx
   have hpl2':∀j x,look j ob1=some x->qcX x=true->look j ob2=some x:=fun j x hx hpx=>by
    rw[hob2 j (by have:=hok.look hx;exact this) (hna j x hx hpx)];exact hx
   have j1:look I.t1 ob2=some (.cells [fv1]):=hpl2' _ _ k1 rfl
   have j4:=hpl2' _ _ k4 rfl
   have ht41:I.t4≠I.t1:=hC.t1L _ hC.e4
   simp(disch:=omega)[k1,k2,k3,hF1.pair]
   refine qbk ?_
   simp(disch:=omega)[ha,j1]
   have hob3:∀j,j≠I.t1->look j (qy I.t1 (.cells [.asl (m+3) 0 (frm.length+1)]) ob2)=look j ob2:=fun j hj=>vR hj
   obtain⟨ob3,hob3e⟩:∃ob3,qy I.t1 (.cells [.asl (m+3) 0 (frm.length+1)]) ob2=ob3:=⟨_,rfl⟩
   have j14:look I.t1 ob3=some (.cells [.asl (m+3) 0 (frm.length+1)]):=by rw[<-hob3e];exact jl j1
   have hni3:qU ob3:=by rw[<-hob3e];exact(hni2 (h1.ni.cons _ rfl)).put _ rfl
   rw[hob3e]at hob3 ⊢
   have j44:=(hob3 _ ht41).trans j4
   simp(disch:=omega)[j44]
   have hpl3:∀j x,j≠I.t1->look j ob1=some x->qcX x=true->look j ob3=some x:=fun j x hj hx hpx=>by rw[hob3 j hj];exact hpl2' j x hx hpx
   have hst3:wc I.L ob3:=fun q hq=>hpl3 _ _ (hC.t1L q hq) (h1.st q hq) (hC.pl q hq)
   have hS1t:∀j,S1 j->j≠I.t1:=fun j hj e=>h1.t1S (e▸hj)
   have hat3:D.At ob3 G1 S1:=D.at_keep _ _ _ _ h1.at_ fun j hj=>by
    obtain⟨x,hx,hpx⟩:=D.at_look _ _ _ _ h1.at_ hj
    rw[hx]
    exact hpl3 j x (hS1t j hj) hx hpx
   have hfr3:qbN ob3 (.asl (m+3) 0 (frm.length+1)) (frm++[(i:Int)]):=hfr2.keep fun a o l he=>by
    simp only[LV.asl.injEq]at he
    exact hob3 a (by omega)
   have hne1:m+2≠I.t1:=by omega
   have hko3:look (m+2) ob3=some (.um (qG R)):=by
    rw[hob3 _ hne1,hkeep2 _ (by omega) (fun a o l he e=>?_),qq]
    rcases h1.fr with⟨e1,_⟩|⟨ao,cs,e1,e2,_⟩
    ·rw[e1]at he;cases he
    ·rw[e1]at he
     simp only[LV.asl.injEq]at he
     have:=hok.look e2
     dsimp only at this
     omega
   obtain⟨gR,gX,gB,_⟩:=qfm hK (hC.Fg _ (List.getElem_mem hin)) hbr
   refine qnh hC ps (don++[p]) R (frm++[(i:Int)]) G1 (by rw[hp];simp) (by simp[hd]) gR (fun q hq=>?_) hlim1 ob3 (m+4) S1 _ (m+2) ⟨hst3,hat3,h1.sep,j14,h1.t1S,hfr3,hni3⟩ hko3 fun ob4 n4 S4 fv4 hn4 h4 hS4 hfv4 hkept4=>?_
   ·rcases List.mem_append.1 hq with hq|hq
    ·exact(hb q hq).ext gX
    ·simp at hq
     subst hq
     exact gB
   have m1:=h4.c1
   obtain⟨a4,cs4,e4,f1,f2,f3⟩:∃ao cs,fv4=.asl ao 0 (frm.length+1)/\look ao ob4=some (.arr 1 cs)/\frm.length+1<=cs.length/\cs.take (frm.length+1)=(frm++[(i:Int)]).map LV.int:=by
    rcases h4.fr with⟨_,e⟩|⟨ao,cs,e1,e2,e3,e5⟩
    ·simp at e
    ·simp only[List.length_append,List.length_cons,List.length_nil]at e1 e3 e5
     exact⟨ao,cs,e1,e2,e3,e5⟩
   subst e4
   have hsl:zM 1 1 (.asl a4 0 (frm.length+1)) 0 frm.length=some (.asl a4 0 frm.length):=by
    simp[zM]
   simp(disch:=omega)[m1,qk (show i<2^62 by have:=hC.Fl;omega)]
   obtain⟨ob5,hob5e⟩:∃ob5,qy I.t1 (.cells [.asl a4 0 frm.length]) ob4=ob5:=⟨_,rfl⟩
   rw[hob5e]
   have hob5:∀j,j≠I.t1->look j ob5=look j ob4:=fun j hj=>by rw[<-hob5e];exact vR hj
   have hS4t:∀j,S4 j->j≠I.t1:=fun j hj e=>h4.t1S (e▸hj)
   have ha4:n<=a4:=by
    rcases hfv4 _ _ _ rfl with h|⟨_,_,h⟩
    ·omega
    ·simp only[LV.asl.injEq]at h;omega
   refine⟨⟨i+1,n4,ob5,jd D.step I.c (jb I.F I.c ps R (frm++[(i:Int)])) G1,S4,.asl a4 0 frm.length⟩,by dsimp only;omega,⟨by dsimp only;omega,by dsimp only;omega,qpW _ _ _ hlim1,hfold,⟨?_,?_,h4.sep,?_,h4.t1S,?_,?_⟩,?_,?_,?_⟩,by simp[FT.Le,Wk],HWk.refl _,fun h=>h⟩
   ·exact fun q hq=>by
     rw[hob5 _ (hC.t1L q hq)];exact h4.st q hq
   ·exact D.at_keep _ _ _ _ h4.at_ fun j hj=>hob5 j (hS4t j hj)
   ·dsimp only
    rw[<-hob5e];exact jl m1
   ·refine .inr ⟨a4,cs4,rfl,?_,by omega,?_⟩
    ·dsimp only
     rw[hob5 _ (fun e=>by rw[e,m1]at f1;cases f1)];exact f1
    ·have:=congrArg (List.take frm.length) f3
     rw[List.take_take,Nat.min_eq_left (by omega),<-List.map_take,List.take_left]at this
     exact this
   ·dsimp only
    rw[<-hob5e];exact h4.ni.put _ rfl
   ·intro j hj
    rcases hS4 j hj with h|h
    ·exact hS1 j h
    ·exact .inr (by omega)
   ·intro a o l he
    simp only[LV.asl.injEq]at he
    exact .inl (by omega)
   ·intro j hj hjS hjt hja
    dsimp only
    rw[hob5 j hjt,hkept4 j (by omega) (fun hs=>?_) hjt (fun a o l he=>?_),hob3 j hjt,hob2 j (by omega) (fun a o l he=>?_)]
    ·exact hkept j hj hjS hjt hja
    ·rcases hfv1 a o l he with h|⟨_,_,h⟩
     ·omega
     ·exact hja _ _ _ h
    ·rcases hS1 j hs with h|h
     ·exact hjS h
     ·omega
    ·simp only[LV.asl.injEq]at he
     omega
end
end Go.Abs.Tz
