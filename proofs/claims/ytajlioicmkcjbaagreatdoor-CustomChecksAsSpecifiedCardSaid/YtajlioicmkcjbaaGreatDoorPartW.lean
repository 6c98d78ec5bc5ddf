/- A part of the proof that for every row of clauses, every atom and every number the law CustomChecksAsSpecified returns true, and all read afterwards as before. Conditions: none of its own. -/
import Derived.Test.YtajlioicmkcjbaaGreatDoorPartV
import Derived.Test.YtajlioicmkcjbaaGreatDoorPartI
import Derived.Test.YtajlioicmkcjbaaGreatDoorPartT
import Derived.Test.YtajlioicmkcjbaaGreatDoorPartG
namespace Go.Abs.Tz
open Go Go.Abs Go.Proofs
set_option maxRecDepth 20000
set_option linter.unusedSimpArgs false
attribute [local simp ↓] getP_nil getP_node setP_nil setP_node oneP_eq vP_map vP_some vP_none vP_bind eP_some bP_true bP_false gP_yes gP_tf gP_ft gP_tup runP_skip runP_ops runP_drw runP_seq runP_cond runP_blk runP_loop runP_exit runP_ret seqK_n seqK_r seqK_e seqK_p blkK_n blkK_r blkK_e blkK_p loopK_n loopK_r loopK_e loopK_p finK_n finK_r finK_p resP_one resP_two resP_three resP_nil resP_c nxP_nil argsP_nil argsP_cons evP_t evP_c evP_g evsP_nil evsP_cons clP_fn pnP_i opsP_nil opsP_d opsP_x opsP_gt opsP_gf opP_cf opP_cl opP_pn opP_nx valP_mv valP_pk valP_eq valP_bn valP_nt valP_ld valP_fa valP_fd valP_ia valP_ix valP_ln valP_srn valP_srl valP_srh valP_srb valP_cv valP_mi valP_mf valP_xt valP_bs valP_bd valP_nc valP_mn valP_lk valP_ta opP_mv opP_pk opP_eq opP_bn opP_nt opP_ld opP_fa opP_fd opP_ia opP_ix opP_ln opP_sr opP_cv opP_mi opP_mf opP_xt opP_bs opP_bd opP_nc opP_mn opP_lk opP_ta opP_al opP_bx opP_st opP_ap opP_mk opP_nb opP_mu opP_rg opP_en pendP_nil pendP_d pendP_g drwP_nil drwP_d drwP_x drwP_gt drwP_gf look_self natOf_nat
attribute [local simp] faL fdL iaL ixL loadL partL lenL eqK eqL natOf eqB_s eqB_i eqB_b bn_add bn_sub bn_lss bn_leq bn_gtr bn_geq bn_adds bn_lsss bn_gtrs bn_leqs bn_geqs sliceL LV.cells LV.whole look_self put_self putO_self put_eq stL fillL termC dopP LHeap.alloc oneI oneS oneB nth0 nth1 nth2 nth3 nth4 nth5 nth6 nth7 nth8 nth9 look_ne putO_ne
def ltPK (x : Strat) (k : PK) : Bool := lessB x.pred k.1 || (eqBA x.pred k.1 && decide (x.args < k.2))
def posS : List Strat -> PK -> Nat
  | [], _ => 0
  | x :: r, k => if ltPK x k then posS r k + 1 else 0
def insS (A : List Strat) (k : PK) : List Strat := A.take (posS A k) ++ [⟨k.1, k.2, 0⟩] ++ A.drop (posS A k)
def foundS (A : List Strat) (a : Atom) : Prop := 0 <= findSt A (ofA a) 0
instance (A : List Strat) (a : Atom) : Decidable (foundS A a) := by unfold foundS; infer_instance
def predF (A : List Strat) (a : Atom) : List Strat := if foundS A a then A else insS A (ofA a)
theorem posS_le : ∀ (A : List Strat) (k : PK), posS A k <= A.length
  | [], _ => Nat.le_refl _
  | x :: r, k => by
    have := posS_le r k
    simp only [posS, List.length_cons]
    split <;> omega
theorem insS_len (A : List Strat) (k : PK) : (insS A k).length = A.length + 1 := by
  have := posS_le A k
  unfold insS
  simp
  omega
theorem predF_len (A : List Strat) (a : Atom) : (predF A a).length <= A.length + 1 /\ A.length <= (predF A a).length := by
  unfold predF
  split
  · omega
  · rw [insS_len]; omega
theorem fold_len : ∀ (aa : List Atom) (A : List Strat), (aa.foldl predF A).length <= A.length + aa.length /\ A.length <= (aa.foldl predF A).length
  | [], A => by simp
  | a :: r, A => by
    have h1 := fold_len r (predF A a)
    have h2 := predF_len A a
    rw [List.foldl_cons, List.length_cons]
    omega
theorem strats_all (A : List Strat) : (A.map stratL).all (fun e => e.cells.length == 3) = true := by
  rw [List.all_map, List.all_eq_true]
  intro x _
  rfl
inductive RepO (H : LHeap) (A : List Strat) : LV -> List (Nat × LObj) -> Nat -> Prop
  | sl (own : Own) (n : Nat) : H.next <= n -> RepO H A (.sl (A.map stratL) own) H.objs n
  | asl (o n : Nat) : H.next <= o -> o < n -> RepO H A (.asl o 0 A.length) ((o, arrS A) :: H.objs) n
inductive RepS (H : LHeap) : List Strat -> LV -> List (Nat × LObj) -> Nat -> Prop
  | nil (n : Nat) : H.next <= n -> RepS H [] Nl H.objs n
  | asl (A : List Strat) (o n : Nat) : H.next <= o -> o < n -> RepS H A (.asl o 0 A.length) ((o, arrS A) :: H.objs) n
theorem del_base {H : LHeap} (hH : H.Ok) {o : Nat} (ho : H.next <= o) : delO o H.objs = H.objs := by
  have go : ∀ (l : List (Nat × LObj)) (n : Nat), Desc l n -> n <= o -> delO o l = l := by
    intro l
    induction l with
    | nil => intro n _ _; rfl
    | cons e l ih =>
      obtain ⟨i, x⟩ := e
      intro n hd hn
      have h1 : i < n := hd.1
      simp only [delO]
      rw [if_neg (by omega), ih i hd.2 (by omega)]
  exact go _ _ hH ho
theorem ap2_rep {H : LHeap} (hH : H.Ok) {A B : List Strat} {v : LV} {ob : List (Nat × LObj)} {n : Nat} (h : RepS H A v ob n) (hl : A.length + B.length <= 2 ^ 20) :
    ∃ v' ob' n', (∀ ow, ap2L ⟨ob, n⟩ 3 v (.sl (B.map stratL) ow) = some (v', ⟨ob', n'⟩)) /\ RepS H (A ++ B) v' ob' n' /\ n <= n' := by
  have hrow : ∀ ow, rowL ⟨ob, n⟩ 3 (.sl (B.map stratL) ow) = some (B.flatMap stratC, B.length) := by
    intro ow
    unfold rowL
    simp only
    rw [strats_all, if_pos rfl]
    simp [List.flatMap_map, LV.cells]
  cases hB : B with
  | nil =>
    subst hB
    refine ⟨v, ob, n, fun ow => ?_, by rw [List.append_nil]; exact h, Nat.le_refl _⟩
    unfold ap2L
    rw [hrow]
    cases h with
    | nil => rfl
    | asl _ o _ h1 h2 =>
      have h3 : (A.flatMap stratC).length = A.length * 3 := flat_len stratC_len A
      have : srcL ⟨(o, arrS A) :: H.objs, n⟩ 3 (.asl o 0 A.length) = some ((A.flatMap stratC).take (A.length * 3), LHeap.del ⟨(o, arrS A) :: H.objs, n⟩ o, A.length) := by
        simp only [srcL, look, if_true]
        rw [if_pos ⟨trivial, by rw [h3]; exact Nat.le_refl _⟩]
      rw [this]
      rfl
  | cons b B' =>
    rw [<- hB]
    have hpos : 0 < B.length := by rw [hB]; simp
    cases h with
    | nil _ h1 =>
      refine ⟨.asl n 0 B.length, (n, arrS B) :: H.objs, n + 1, fun ow => ?_, by rw [List.nil_append]; exact .asl B n _ h1 (Nat.lt_succ_self _), Nat.le_succ _⟩
      unfold ap2L
      rw [hrow, show srcL ⟨H.objs, n⟩ 3 Nl = some ([], ⟨H.objs, n⟩, 0) from rfl]
      simp only [List.length_nil, Nat.zero_add] at hl ⊢
      rw [if_neg (by omega), if_pos ⟨by omega, by omega⟩]
      rfl
    | asl _ o _ h1 h2 =>
      have h3 : (A.flatMap stratC).length = A.length * 3 := flat_len stratC_len A
      have : srcL ⟨(o, arrS A) :: H.objs, n⟩ 3 (.asl o 0 A.length) = some (A.flatMap stratC, ⟨H.objs, n⟩, A.length) := by
        simp only [srcL, look, if_true]
        rw [if_pos ⟨trivial, by rw [h3]; exact Nat.le_refl _⟩, <- h3, List.take_length]
        simp [LHeap.del, delO, del_base hH h1]
      refine ⟨.asl n 0 (A.length + B.length), (n, arrS (A ++ B)) :: H.objs, n + 1, fun ow => ?_, ?_, Nat.le_succ _⟩
      · unfold ap2L
        rw [hrow, this]
        simp only
        rw [if_neg (by omega), if_pos ⟨by omega, by omega⟩]
        simp [LHeap.alloc, List.flatMap_append]
      · rw [<- List.length_append]
        exact .asl (A ++ B) n _ (by omega) (Nat.lt_succ_self _)
structure NNP2 where
  i : Nat
  n : Nat
  a : List Strat
  v : LV
  ob : List (Nat × LObj)
def l72b : BCode := match b72.body with
  | .seq _ (.seq _ (.seq _ (.seq _ (.seq x _)))) => x
  | _ => .bad
theorem RepS.toO {H : LHeap} {A : List Strat} {v : LV} {ob : List (Nat × LObj)} {n : Nat} (h : RepS H A v ob n) (hne : A ≠ []) : RepO H A v ob n /\ ∃ o, v = .asl o 0 A.length := by
  cases h with
  | nil => exact absurd rfl hne
  | asl _ o _ h1 h2 => exact ⟨.asl o _ h1 h2, o, rfl⟩
theorem eP_of {o : Option (LV × LHeap)} {k : HP} {v : LV} {H : LHeap} (h : o = some (v, H)) (hk : k v H) : eP o k := ⟨v, H, h, hk⟩
theorem row_apS {H : LHeap} {A B : List Strat} {own : Own} {ob : List (Nat × LObj)} {n : Nat} (hl : A.length + B.length <= 2 ^ 20) (h : RowT H 3 A.length own ob n) :
    ∃ own' ob' n', (∀ ow, apL ⟨ob, n⟩ 3 (.sl (A.map stratL) own) (.sl (B.map stratL) ow) = some (.sl ((A ++ B).map stratL) own', ⟨ob', n'⟩)) /\ RowT H 3 (A ++ B).length own' ob' n' /\ n <= n' := by
  rcases h with ⟨rfl, rfl, h⟩ | ⟨t, rfl, h1, h2, rfl⟩
  · refine ⟨.tok n, (n, .tok (A ++ B).length 3) :: H.objs, n + 1, fun ow => ?_, .inr ⟨n, rfl, h, Nat.lt_succ_self _, rfl⟩, Nat.le_succ _⟩
    unfold apL
    simp only
    rw [strats_all, strats_all]
    simp only [Bool.and_self, if_true, List.length_map]
    rw [if_pos ⟨by omega, by omega, rfl⟩]
    simp [LHeap.alloc]
  · refine ⟨.tok t, (t, .tok (A ++ B).length 3) :: H.objs, n, fun ow => ?_, .inr ⟨t, rfl, h1, h2, rfl⟩, Nat.le_refl _⟩
    have hcan : canApp ⟨(t, .tok A.length 3) :: H.objs, n⟩ 3 (.tok t) A.length = true := by simp [canApp, look]
    unfold apL
    simp only
    rw [strats_all, strats_all]
    simp only [Bool.and_self, if_true, List.length_map]
    rw [if_pos ⟨by omega, by omega, hcan⟩]
    simp [LHeap.put, putO]
theorem t_ins (aa : List Atom) (ownA : Own) (haa : aa ≠ []) (hl : aa.length < 2 ^ 18) (H : LHeap) :
    lP E0 F0 l72b (FT.node .bot (FT.node .bot (FT.node (.sl (aa.map atomL) ownA) .nil .nil) .nil) (FT.node .bot .nil (FT.node (Nl) .nil .nil))) H (fun e t' H' => e = .normal /\ ∃ o n, H.next <= o /\ o < n /\ FT.Le (FT.node .bot .nil (FT.node .bot .nil (FT.node (.asl o 0 (aa.foldl predF []).length) .nil .nil))) t' /\ HWk H' ⟨(o, arrS (aa.foldl predF [])) :: H.objs, n⟩ /\ (H'.Ok -> LHeap.Ok ⟨(o, arrS (aa.foldl predF [])) :: H.objs, n⟩)) := by
  refine lP_okH fun hH => lP_of_run ?_
  simp (disch := omega) [l72b, b72]
  obtain ⟨R, hR⟩ : ∃ R, aa.foldl predF [] = R := ⟨_, rfl⟩
  rw [hR]
  refine lP_enter (σ := NNP2) (fun q => (FT.node .bot (FT.node .bot (FT.node (.sl (aa.map atomL) ownA) (FT.node (.int q.i) .nil .nil) .nil) .nil) (FT.node .bot .nil (FT.node (q.v) .nil .nil)))) (fun q => ⟨q.ob, q.n⟩) (fun q => aa.length - q.i)
    (fun q => RepO H q.a q.v q.ob q.n /\ q.i <= aa.length /\ q.a.length <= q.i /\ (aa.drop q.i).foldl predF q.a = R /\ ((∃ own, q.v = .sl (q.a.map stratL) own /\ ∃ a ∈ aa.drop q.i, ¬ foundS q.a a) \/ ((∃ o, q.v = .asl o 0 q.a.length) /\ ∀ a ∈ aa.drop q.i, foundS q.a a)))
    ⟨0, H.next, [], Nl, H.objs⟩ ⟨.sl .full _ (Nat.le_refl _), Nat.zero_le _, Nat.le_refl _, hR, .inl ⟨.full, rfl, aa.head haa, List.head_mem haa, by unfold foundS findSt; omega⟩⟩ (by simp [FT.Le, Wk]) ⟨HWk.refl _, fun h => h⟩ ?_
  rintro ⟨i, n, A, v, ob⟩ ⟨hr, hi, hAi, he, hm⟩ hok
  dsimp only at hr hi hAi he hm hok
  have hnn : H.next <= n := by cases hr <;> omega
  by_cases hlt : i < aa.length
  case neg =>
    have hd : aa.drop i = [] := List.drop_eq_nil_of_le (by omega)
    rw [hd] at he hm
    simp only [List.foldl_nil] at he
    subst he
    rcases hm with ⟨_, _, a, ha, _⟩ | ⟨⟨o, rfl⟩, _⟩
    · cases ha
    cases hr with
    | asl _ _ h1 h2 =>
      simp (disch := omega) [hlt]
      exact ⟨o, h1, n, h2, by simp [FT.Le, Wk], HWk.refl _, fun h => h⟩
  rw [List.drop_eq_getElem_cons hlt] at he hm
  rw [List.foldl_cons] at he
  rcases hm with ⟨own, rfl, hex⟩ | ⟨⟨o, rfl⟩, hall⟩
  case inr =>
    have hf : foundS A aa[i] := hall _ List.mem_cons_self
    have hp : predF A aa[i] = A := by unfold predF; rw [if_pos hf]
    rw [hp] at he
    cases hr with
    | asl _ _ h1 h2 =>
      simp (disch := omega) [hlt]
      refine t_rfindA A o _ n (by simp [look]) aa[i] (by omega) fun n1 hn1 => ?_
      have hf' : (0 : Int) <= findSt A (ofA aa[i]) 0 := hf
      simp (disch := omega) [hf', wrap_nat (show i < 2 ^ 62 by omega)]
      exact ⟨⟨i + 1, n1, A, .asl o 0 A.length, (o, arrS A) :: H.objs⟩, by dsimp only; omega, ⟨.asl o n1 h1 (by omega), by dsimp only; omega, by dsimp only; omega, he, .inr ⟨⟨o, rfl⟩, fun a ha => hall a (List.mem_cons_of_mem _ ha)⟩⟩, by simp [FT.Le, Wk], HWk.refl _, fun h => h⟩
  have hob : ob = H.objs := by cases hr; rfl
  subst hob
  simp (disch := omega) [hlt]
  refine (t_rfind A own aa[i] (by omega)).go fun n1 hn1 => ?_
  by_cases hf : foundS A aa[i]
  · have hf' : (0 : Int) <= findSt A (ofA aa[i]) 0 := hf
    have hp : predF A aa[i] = A := by unfold predF; rw [if_pos hf]
    rw [hp] at he
    simp (disch := omega) [hf', wrap_nat (show i < 2 ^ 62 by omega)]
    obtain ⟨a, ha, hna⟩ := hex
    refine ⟨⟨i + 1, n1, A, .sl (A.map stratL) own, H.objs⟩, by dsimp only; omega, ⟨.sl own n1 (by omega), by dsimp only; omega, by dsimp only; omega, he, .inl ⟨⟨own, rfl⟩, a, ?_, hna⟩⟩, by simp [FT.Le, Wk], HWk.refl _, fun h => h⟩
    rcases List.mem_cons.1 ha with rfl | ha
    · exact absurd hf hna
    · exact ha
  have hf' : ¬ (0 : Int) <= findSt A (ofA aa[i]) 0 := hf
  have hp : predF A aa[i] = insS A (ofA aa[i]) := by unfold predF; rw [if_neg hf]
  rw [hp] at he
  simp (disch := omega) [hf']
  refine lP_enter (σ := NN) (fun q => (FT.node .bot (FT.node .bot (FT.node (.sl (aa.map atomL) ownA) (FT.node (.int i) .nil .nil) .nil) .nil) (FT.node .bot (FT.node .bot (FT.node (.int q.i) .nil .nil) .nil) (FT.node (.sl (A.map stratL) own) .nil .nil)))) (fun q => ⟨H.objs, q.n⟩) (fun q => A.length - q.i)
    (fun q => n1 <= q.n /\ q.i <= A.length /\ q.i + posS (A.drop q.i) (ofA aa[i]) = posS A (ofA aa[i])) ⟨0, n1⟩ ⟨Nat.le_refl _, Nat.zero_le _, by simp⟩ (by simp [FT.Le, Wk]) ⟨HWk.refl _, fun h => h⟩ ?_
  rintro ⟨j, n2⟩ ⟨hn2, hj, hpos⟩ hok2
  simp only at hn2 hj hpos
  by_cases hlt2 : j < A.length
  case neg =>
    have hjp : posS A (ofA aa[i]) = j := by
      rw [List.drop_eq_nil_of_le (by omega)] at hpos
      simpa [posS] using hpos.symm
    have hDz : (A.map stratL).drop j = [] := List.drop_eq_nil_of_le (by rw [List.length_map]; omega)
    simp (disch := omega) [hlt, hlt2]
    simp (disch := omega) [hj]
    have hTl : (A.take j).map stratL = (A.map stratL).take j := List.map_take
    have hDl : (A.drop j).map stratL = (A.map stratL).drop j := List.map_drop
    obtain ⟨S0, hS0⟩ : ∃ S0 : Strat, (⟨aa[i].pred, aa[i].args.length, 0⟩ : Strat) = S0 := ⟨_, rfl⟩
    have hIns : insS A (ofA aa[i]) = A.take j ++ [S0] ++ A.drop j := by rw [<- hjp, <- hS0]; rfl
    have hSL : [S0].map stratL = [.agg [.str aa[i].pred, .int aa[i].args.length, .int 0]] := by rw [<- hS0]; rfl
    have hb1 : (A.take j).length <= 2 ^ 18 := by rw [List.length_take]; omega
    have hb2 : (A.take j ++ [S0]).length <= 2 ^ 18 + 1 := by rw [List.length_append]; simp only [List.length_cons, List.length_nil]; omega
    have hb3 : (A.drop j).length <= 2 ^ 18 := by rw [List.length_drop]; omega
    have hlen := insS_len A (ofA aa[i])
    have hne : insS A (ofA aa[i]) ≠ [] := fun e => by rw [e] at hlen; simp at hlen
    by_cases hlast : ∀ a ∈ aa.drop (i + 1), foundS (insS A (ofA aa[i])) a
    · obtain ⟨v1, ob1, m1, e1, r1, q1⟩ := ap2_rep hH (.nil n2 (by omega)) (B := A.take j) (by simp only [List.length_nil]; omega)
      obtain ⟨v2, ob2, m2, e2, r2, q2⟩ := ap2_rep hH r1 (B := [S0]) (by rw [List.nil_append]; simp only [List.length_cons, List.length_nil]; omega)
      obtain ⟨v3, ob3, m3, e3, r3, q3⟩ := ap2_rep hH r2 (B := A.drop j) (by rw [List.nil_append]; omega)
      rw [List.nil_append, <- hIns] at r3
      obtain ⟨r4, o4, h4⟩ := r3.toO hne
      rw [hTl] at e1
      rw [hSL] at e2
      rw [hDl] at e3
      refine effP_ap2 ?_
      simp (disch := omega)
      refine eP_of (v := v1) (H := ⟨ob1, m1⟩) (by simpa [hlt2] using e1 _) ?_
      try simp (disch := omega)
      refine effP_ap2 ?_
      simp (disch := omega)
      refine eP_of (v := v2) (H := ⟨ob2, m2⟩) (by simpa using e2 _) ?_
      try simp (disch := omega)
      refine effP_ap2 ?_
      simp (disch := omega)
      refine eP_of (v := v3) (H := ⟨ob3, m3⟩) (by simpa [hlt2, hDz] using e3 _) ?_
      simp (disch := omega) [wrap_nat (show i < 2 ^ 62 by omega)]
      exact ⟨⟨i + 1, m3, insS A (ofA aa[i]), v3, ob3⟩, by dsimp only; omega, ⟨r4, by dsimp only; omega, by dsimp only; omega, he, .inr ⟨⟨o4, h4⟩, hlast⟩⟩, by simp [FT.Le, Wk], HWk.refl _, fun h => h⟩
    · obtain ⟨w1, ob1, m1, e1, r1, q1⟩ := row_apS (H := H) (A := []) (B := A.take j) (own := .full) (ob := H.objs) (n := n2) (by simp only [List.length_nil]; omega) (.inl ⟨rfl, rfl, by omega⟩)
      obtain ⟨w2, ob2, m2, e2, r2, q2⟩ := row_apS (B := [S0]) (by rw [List.nil_append]; simp only [List.length_cons, List.length_nil]; omega) r1
      obtain ⟨w3, ob3, m3, e3, r3, q3⟩ := row_apS (B := A.drop j) (by rw [List.nil_append]; omega) r2
      rw [List.nil_append, <- hIns] at r3 e3
      rw [List.nil_append] at e1 e2
      obtain ⟨X1, hX1⟩ : ∃ X1, A.take j = X1 := ⟨_, rfl⟩
      obtain ⟨X2, hX2⟩ : ∃ X2, A.take j ++ [S0] = X2 := ⟨_, rfl⟩
      obtain ⟨X3, hX3⟩ : ∃ X3, insS A (ofA aa[i]) = X3 := ⟨_, rfl⟩
      have e1' : ∀ ow, apL ⟨H.objs, n2⟩ 3 Nl (.sl ((A.map stratL).take j) ow) = some (.sl (X1.map stratL) w1, ⟨ob1, m1⟩) := fun ow => by rw [<- hTl, <- hX1]; exact e1 ow
      have e2' : ∀ ow, apL ⟨ob1, m1⟩ 3 (.sl (X1.map stratL) w1) (.sl [.agg [.str aa[i].pred, .int aa[i].args.length, .int 0]] ow) = some (.sl (X2.map stratL) w2, ⟨ob2, m2⟩) := fun ow => by rw [<- hSL, <- hX1, <- hX2]; exact e2 ow
      have e3' : ∀ ow, apL ⟨ob2, m2⟩ 3 (.sl (X2.map stratL) w2) (.sl ((A.map stratL).drop j) ow) = some (.sl (X3.map stratL) w3, ⟨ob3, m3⟩) := fun ow => by rw [<- hDl, <- hX2, <- hX3]; exact e3 ow
      rw [hX3] at he r3 hlast hlen
      have hnl : ∃ a, a ∈ aa.drop (i + 1) /\ ¬ foundS X3 a := by simpa using hlast
      have hfg : HWk ⟨ob3, m3⟩ ⟨H.objs, m3⟩ := ⟨Nat.le_refl _, fun q x hx => by
        rcases r3 with ⟨_, rfl, _⟩ | ⟨t, _, g1, g2, rfl⟩
        · exact hx
        · have := hH.look hx
          simp only [look]
          rw [if_neg (by omega)]
          exact hx⟩
      refine effP_ap ?_
      simp (disch := omega)
      refine eP_of (v := .sl (X1.map stratL) w1) (H := ⟨ob1, m1⟩) (by simpa [hlt2] using e1' _) ?_
      try simp (disch := omega)
      refine effP_ap ?_
      simp (disch := omega)
      refine eP_of (v := .sl (X2.map stratL) w2) (H := ⟨ob2, m2⟩) (by simpa using e2' _) ?_
      try simp (disch := omega)
      refine effP_ap ?_
      simp (disch := omega)
      refine eP_of (v := .sl (X3.map stratL) w3) (H := ⟨ob3, m3⟩) (by simpa [hlt2, hDz] using e3' _) ?_
      simp (disch := omega) [wrap_nat (show i < 2 ^ 62 by omega)]
      exact ⟨⟨i + 1, m3, X3, .sl (X3.map stratL) w3, H.objs⟩, by dsimp only; omega, ⟨.sl w3 m3 (by omega), by dsimp only; omega, by dsimp only; omega, he, .inl ⟨⟨w3, rfl⟩, hnl⟩⟩, by simp [FT.Le, Wk], hfg, fun _ => Desc.mono hH (by dsimp only; omega)⟩
  rw [List.drop_eq_getElem_cons hlt2] at hpos
  have em : ltPK A[j] (ofA aa[i]) = (lessB A[j].pred aa[i].pred || (eqBA A[j].pred aa[i].pred && decide (A[j].args < aa[i].args.length))) := rfl
  have hDz : ((A.map stratL).drop j).take (A.length - j) = (A.map stratL).drop j := List.take_of_length_le (by rw [List.length_drop, List.length_map]; omega)
  simp only [posS] at hpos
  cases h1 : lessB A[j].pred aa[i].pred
  · cases h2 : eqBA A[j].pred aa[i].pred
    · have hjp : posS A (ofA aa[i]) = j := by simp [em, h1, h2] at hpos; omega
      simp (disch := omega) [hlt, hlt2, h1, h2]
      simp (disch := omega) [hj]
      have hTl : (A.take j).map stratL = (A.map stratL).take j := List.map_take
      have hDl : (A.drop j).map stratL = (A.map stratL).drop j := List.map_drop
      obtain ⟨S0, hS0⟩ : ∃ S0 : Strat, (⟨aa[i].pred, aa[i].args.length, 0⟩ : Strat) = S0 := ⟨_, rfl⟩
      have hIns : insS A (ofA aa[i]) = A.take j ++ [S0] ++ A.drop j := by rw [<- hjp, <- hS0]; rfl
      have hSL : [S0].map stratL = [.agg [.str aa[i].pred, .int aa[i].args.length, .int 0]] := by rw [<- hS0]; rfl
      have hb1 : (A.take j).length <= 2 ^ 18 := by rw [List.length_take]; omega
      have hb2 : (A.take j ++ [S0]).length <= 2 ^ 18 + 1 := by rw [List.length_append]; simp only [List.length_cons, List.length_nil]; omega
      have hb3 : (A.drop j).length <= 2 ^ 18 := by rw [List.length_drop]; omega
      have hlen := insS_len A (ofA aa[i])
      have hne : insS A (ofA aa[i]) ≠ [] := fun e => by rw [e] at hlen; simp at hlen
      by_cases hlast : ∀ a ∈ aa.drop (i + 1), foundS (insS A (ofA aa[i])) a
      · obtain ⟨v1, ob1, m1, e1, r1, q1⟩ := ap2_rep hH (.nil n2 (by omega)) (B := A.take j) (by simp only [List.length_nil]; omega)
        obtain ⟨v2, ob2, m2, e2, r2, q2⟩ := ap2_rep hH r1 (B := [S0]) (by rw [List.nil_append]; simp only [List.length_cons, List.length_nil]; omega)
        obtain ⟨v3, ob3, m3, e3, r3, q3⟩ := ap2_rep hH r2 (B := A.drop j) (by rw [List.nil_append]; omega)
        rw [List.nil_append, <- hIns] at r3
        obtain ⟨r4, o4, h4⟩ := r3.toO hne
        rw [hTl] at e1
        rw [hSL] at e2
        rw [hDl] at e3
        refine effP_ap2 ?_
        simp (disch := omega)
        refine eP_of (v := v1) (H := ⟨ob1, m1⟩) (by simpa [hlt2] using e1 _) ?_
        try simp (disch := omega)
        refine effP_ap2 ?_
        simp (disch := omega)
        refine eP_of (v := v2) (H := ⟨ob2, m2⟩) (by simpa using e2 _) ?_
        try simp (disch := omega)
        refine effP_ap2 ?_
        simp (disch := omega)
        refine eP_of (v := v3) (H := ⟨ob3, m3⟩) (by simpa [hlt2, hDz] using e3 _) ?_
        simp (disch := omega) [wrap_nat (show i < 2 ^ 62 by omega)]
        exact ⟨⟨i + 1, m3, insS A (ofA aa[i]), v3, ob3⟩, by dsimp only; omega, ⟨r4, by dsimp only; omega, by dsimp only; omega, he, .inr ⟨⟨o4, h4⟩, hlast⟩⟩, by simp [FT.Le, Wk], HWk.refl _, fun h => h⟩
      · obtain ⟨w1, ob1, m1, e1, r1, q1⟩ := row_apS (H := H) (A := []) (B := A.take j) (own := .full) (ob := H.objs) (n := n2) (by simp only [List.length_nil]; omega) (.inl ⟨rfl, rfl, by omega⟩)
        obtain ⟨w2, ob2, m2, e2, r2, q2⟩ := row_apS (B := [S0]) (by rw [List.nil_append]; simp only [List.length_cons, List.length_nil]; omega) r1
        obtain ⟨w3, ob3, m3, e3, r3, q3⟩ := row_apS (B := A.drop j) (by rw [List.nil_append]; omega) r2
        rw [List.nil_append, <- hIns] at r3 e3
        rw [List.nil_append] at e1 e2
        obtain ⟨X1, hX1⟩ : ∃ X1, A.take j = X1 := ⟨_, rfl⟩
        obtain ⟨X2, hX2⟩ : ∃ X2, A.take j ++ [S0] = X2 := ⟨_, rfl⟩
        obtain ⟨X3, hX3⟩ : ∃ X3, insS A (ofA aa[i]) = X3 := ⟨_, rfl⟩
        have e1' : ∀ ow, apL ⟨H.objs, n2⟩ 3 Nl (.sl ((A.map stratL).take j) ow) = some (.sl (X1.map stratL) w1, ⟨ob1, m1⟩) := fun ow => by rw [<- hTl, <- hX1]; exact e1 ow
        have e2' : ∀ ow, apL ⟨ob1, m1⟩ 3 (.sl (X1.map stratL) w1) (.sl [.agg [.str aa[i].pred, .int aa[i].args.length, .int 0]] ow) = some (.sl (X2.map stratL) w2, ⟨ob2, m2⟩) := fun ow => by rw [<- hSL, <- hX1, <- hX2]; exact e2 ow
        have e3' : ∀ ow, apL ⟨ob2, m2⟩ 3 (.sl (X2.map stratL) w2) (.sl ((A.map stratL).drop j) ow) = some (.sl (X3.map stratL) w3, ⟨ob3, m3⟩) := fun ow => by rw [<- hDl, <- hX2, <- hX3]; exact e3 ow
        rw [hX3] at he r3 hlast hlen
        have hnl : ∃ a, a ∈ aa.drop (i + 1) /\ ¬ foundS X3 a := by simpa using hlast
        have hfg : HWk ⟨ob3, m3⟩ ⟨H.objs, m3⟩ := ⟨Nat.le_refl _, fun q x hx => by
          rcases r3 with ⟨_, rfl, _⟩ | ⟨t, _, g1, g2, rfl⟩
          · exact hx
          · have := hH.look hx
            simp only [look]
            rw [if_neg (by omega)]
            exact hx⟩
        refine effP_ap ?_
        simp (disch := omega)
        refine eP_of (v := .sl (X1.map stratL) w1) (H := ⟨ob1, m1⟩) (by simpa [hlt2] using e1' _) ?_
        try simp (disch := omega)
        refine effP_ap ?_
        simp (disch := omega)
        refine eP_of (v := .sl (X2.map stratL) w2) (H := ⟨ob2, m2⟩) (by simpa using e2' _) ?_
        try simp (disch := omega)
        refine effP_ap ?_
        simp (disch := omega)
        refine eP_of (v := .sl (X3.map stratL) w3) (H := ⟨ob3, m3⟩) (by simpa [hlt2, hDz] using e3' _) ?_
        simp (disch := omega) [wrap_nat (show i < 2 ^ 62 by omega)]
        exact ⟨⟨i + 1, m3, X3, .sl (X3.map stratL) w3, H.objs⟩, by dsimp only; omega, ⟨.sl w3 m3 (by omega), by dsimp only; omega, by dsimp only; omega, he, .inl ⟨⟨w3, rfl⟩, hnl⟩⟩, by simp [FT.Le, Wk], hfg, fun _ => Desc.mono hH (by dsimp only; omega)⟩
    · by_cases h3 : A[j].args < aa[i].args.length
      · have hq : j + 1 + posS (A.drop (j + 1)) (ofA aa[i]) = posS A (ofA aa[i]) := by simp [em, h1, h2, h3] at hpos; omega
        simp (disch := omega) [hlt, hlt2, h1, h2, h3, wrap_nat (show j < 2 ^ 62 by omega)]
        exact ⟨⟨j + 1, n2⟩, by dsimp only; omega, ⟨by dsimp only; omega, by dsimp only; omega, hq⟩, by simp [FT.Le, Wk], HWk.refl _, fun h => h⟩
      · have hjp : posS A (ofA aa[i]) = j := by simp [em, h1, h2, h3] at hpos; omega
        simp (disch := omega) [hlt, hlt2, h1, h2, h3]
        simp (disch := omega) [hj]
        have hTl : (A.take j).map stratL = (A.map stratL).take j := List.map_take
        have hDl : (A.drop j).map stratL = (A.map stratL).drop j := List.map_drop
        obtain ⟨S0, hS0⟩ : ∃ S0 : Strat, (⟨aa[i].pred, aa[i].args.length, 0⟩ : Strat) = S0 := ⟨_, rfl⟩
        have hIns : insS A (ofA aa[i]) = A.take j ++ [S0] ++ A.drop j := by rw [<- hjp, <- hS0]; rfl
        have hSL : [S0].map stratL = [.agg [.str aa[i].pred, .int aa[i].args.length, .int 0]] := by rw [<- hS0]; rfl
        have hb1 : (A.take j).length <= 2 ^ 18 := by rw [List.length_take]; omega
        have hb2 : (A.take j ++ [S0]).length <= 2 ^ 18 + 1 := by rw [List.length_append]; simp only [List.length_cons, List.length_nil]; omega
        have hb3 : (A.drop j).length <= 2 ^ 18 := by rw [List.length_drop]; omega
        have hlen := insS_len A (ofA aa[i])
        have hne : insS A (ofA aa[i]) ≠ [] := fun e => by rw [e] at hlen; simp at hlen
        by_cases hlast : ∀ a ∈ aa.drop (i + 1), foundS (insS A (ofA aa[i])) a
        · obtain ⟨v1, ob1, m1, e1, r1, q1⟩ := ap2_rep hH (.nil n2 (by omega)) (B := A.take j) (by simp only [List.length_nil]; omega)
          obtain ⟨v2, ob2, m2, e2, r2, q2⟩ := ap2_rep hH r1 (B := [S0]) (by rw [List.nil_append]; simp only [List.length_cons, List.length_nil]; omega)
          obtain ⟨v3, ob3, m3, e3, r3, q3⟩ := ap2_rep hH r2 (B := A.drop j) (by rw [List.nil_append]; omega)
          rw [List.nil_append, <- hIns] at r3
          obtain ⟨r4, o4, h4⟩ := r3.toO hne
          rw [hTl] at e1
          rw [hSL] at e2
          rw [hDl] at e3
          refine effP_ap2 ?_
          simp (disch := omega)
          refine eP_of (v := v1) (H := ⟨ob1, m1⟩) (by simpa [hlt2] using e1 _) ?_
          try simp (disch := omega)
          refine effP_ap2 ?_
          simp (disch := omega)
          refine eP_of (v := v2) (H := ⟨ob2, m2⟩) (by simpa using e2 _) ?_
          try simp (disch := omega)
          refine effP_ap2 ?_
          simp (disch := omega)
          refine eP_of (v := v3) (H := ⟨ob3, m3⟩) (by simpa [hlt2, hDz] using e3 _) ?_
          simp (disch := omega) [wrap_nat (show i < 2 ^ 62 by omega)]
          exact ⟨⟨i + 1, m3, insS A (ofA aa[i]), v3, ob3⟩, by dsimp only; omega, ⟨r4, by dsimp only; omega, by dsimp only; omega, he, .inr ⟨⟨o4, h4⟩, hlast⟩⟩, by simp [FT.Le, Wk], HWk.refl _, fun h => h⟩
        · obtain ⟨w1, ob1, m1, e1, r1, q1⟩ := row_apS (H := H) (A := []) (B := A.take j) (own := .full) (ob := H.objs) (n := n2) (by simp only [List.length_nil]; omega) (.inl ⟨rfl, rfl, by omega⟩)
          obtain ⟨w2, ob2, m2, e2, r2, q2⟩ := row_apS (B := [S0]) (by rw [List.nil_append]; simp only [List.length_cons, List.length_nil]; omega) r1
          obtain ⟨w3, ob3, m3, e3, r3, q3⟩ := row_apS (B := A.drop j) (by rw [List.nil_append]; omega) r2
          rw [List.nil_append, <- hIns] at r3 e3
          rw [List.nil_append] at e1 e2
          obtain ⟨X1, hX1⟩ : ∃ X1, A.take j = X1 := ⟨_, rfl⟩
          obtain ⟨X2, hX2⟩ : ∃ X2, A.take j ++ [S0] = X2 := ⟨_, rfl⟩
          obtain ⟨X3, hX3⟩ : ∃ X3, insS A (ofA aa[i]) = X3 := ⟨_, rfl⟩
          have e1' : ∀ ow, apL ⟨H.objs, n2⟩ 3 Nl (.sl ((A.map stratL).take j) ow) = some (.sl (X1.map stratL) w1, ⟨ob1, m1⟩) := fun ow => by rw [<- hTl, <- hX1]; exact e1 ow
          have e2' : ∀ ow, apL ⟨ob1, m1⟩ 3 (.sl (X1.map stratL) w1) (.sl [.agg [.str aa[i].pred, .int aa[i].args.length, .int 0]] ow) = some (.sl (X2.map stratL) w2, ⟨ob2, m2⟩) := fun ow => by rw [<- hSL, <- hX1, <- hX2]; exact e2 ow
          have e3' : ∀ ow, apL ⟨ob2, m2⟩ 3 (.sl (X2.map stratL) w2) (.sl ((A.map stratL).drop j) ow) = some (.sl (X3.map stratL) w3, ⟨ob3, m3⟩) := fun ow => by rw [<- hDl, <- hX2, <- hX3]; exact e3 ow
          rw [hX3] at he r3 hlast hlen
          have hnl : ∃ a, a ∈ aa.drop (i + 1) /\ ¬ foundS X3 a := by simpa using hlast
          have hfg : HWk ⟨ob3, m3⟩ ⟨H.objs, m3⟩ := ⟨Nat.le_refl _, fun q x hx => by
            rcases r3 with ⟨_, rfl, _⟩ | ⟨t, _, g1, g2, rfl⟩
            · exact hx
            · have := hH.look hx
              simp only [look]
              rw [if_neg (by omega)]
              exact hx⟩
          refine effP_ap ?_
          simp (disch := omega)
          refine eP_of (v := .sl (X1.map stratL) w1) (H := ⟨ob1, m1⟩) (by simpa [hlt2] using e1' _) ?_
          try simp (disch := omega)
          refine effP_ap ?_
          simp (disch := omega)
          refine eP_of (v := .sl (X2.map stratL) w2) (H := ⟨ob2, m2⟩) (by simpa using e2' _) ?_
          try simp (disch := omega)
          refine effP_ap ?_
          simp (disch := omega)
          refine eP_of (v := .sl (X3.map stratL) w3) (H := ⟨ob3, m3⟩) (by simpa [hlt2, hDz] using e3' _) ?_
          simp (disch := omega) [wrap_nat (show i < 2 ^ 62 by omega)]
          exact ⟨⟨i + 1, m3, X3, .sl (X3.map stratL) w3, H.objs⟩, by dsimp only; omega, ⟨.sl w3 m3 (by omega), by dsimp only; omega, by dsimp only; omega, he, .inl ⟨⟨w3, rfl⟩, hnl⟩⟩, by simp [FT.Le, Wk], hfg, fun _ => Desc.mono hH (by dsimp only; omega)⟩
  · have hq : j + 1 + posS (A.drop (j + 1)) (ofA aa[i]) = posS A (ofA aa[i]) := by simp [em, h1] at hpos; omega
    simp (disch := omega) [hlt, hlt2, h1, wrap_nat (show j < 2 ^ 62 by omega)]
    exact ⟨⟨j + 1, n2⟩, by dsimp only; omega, ⟨by dsimp only; omega, by dsimp only; omega, hq⟩, by simp [FT.Le, Wk], HWk.refl _, fun h => h⟩
theorem put_under {a b : Nat} {x y z : LObj} {r : List (Nat × LObj)} {m : Nat} (h : ¬ b = a) : LHeap.put ⟨(a, x) :: (b, y) :: r, m⟩ b z = ⟨(a, x) :: (b, z) :: r, m⟩ := by
  simp [LHeap.put, putO, h]
theorem put_top {b : Nat} {y z : LObj} {r : List (Nat × LObj)} {m : Nat} : LHeap.put ⟨(b, y) :: r, m⟩ b z = ⟨(b, z) :: r, m⟩ := by
  simp [LHeap.put, putO]
theorem ba_data (l : List UInt8) : (⟨⟨l⟩⟩ : ByteArray).data.toList = l := rfl
theorem t_Print (l : List Clause) (hl : l.length <= 40 -> ∀ c ∈ l, Clause.ok3 c) : PureT 7 [clausesL l] (.tup [.str ⟨⟨(printB l).1⟩⟩, .int (printB l).2]) := by
  refine PureT.of c7 fun H hH => ⟨Nat.le_of_ble_eq_true rfl, ?_⟩
  by_cases h1 : (40 : Int) < (l.length : Int)
  · simp (disch := omega) [b7, h1]
    exact doneK hH (by simp [printB, show 40 < l.length by omega])
  have hc := hl (by omega)
  have hl40 : l.length <= 40 := by omega
  simp (disch := omega) [b7, h1]
  obtain ⟨R, hR⟩ : ∃ R, printF l [] = R := ⟨_, rfl⟩
  have hB : printB l = R := by rw [<- hR]; unfold printB; rw [if_neg (by omega)]
  rw [hB]
  have hOk : ∀ (s : List UInt8) (n : Nat), H.next < n -> LHeap.Ok ⟨(H.next, .bld 71 5 s) :: H.objs, n⟩ := fun s n hn => ⟨hn, hH⟩
  refine lP_enter (σ := NNZ) (fun q => (FT.node (clausesL l) (FT.node .bot (FT.node (.int 0) .nil .nil) (FT.node .bot .nil (FT.node (.int l.length) .nil .nil))) (FT.node (.str ⟨⟨[]⟩⟩) (FT.node (.ptr H.next 0) .nil (FT.node (clausesL l) .nil .nil)) (FT.node .bot .nil (FT.node (.int q.i) .nil .nil))))) (fun q => ⟨(H.next, .bld 71 5 q.s) :: H.objs, q.n⟩) (fun q => l.length - q.i)
    (fun q => H.next < q.n /\ q.i <= l.length /\ q.s.length <= 732 * q.i /\ (q.s = [] -> q.i = 0) /\ printF (l.drop q.i) q.s = R) ⟨0, H.next + 1, []⟩ ⟨Nat.lt_succ_self _, Nat.zero_le _, Nat.le_refl _, fun _ => rfl, hR⟩ (by simp [FT.Le, Wk]) ⟨HWk.refl _, fun h => h⟩ ?_
  rintro ⟨i, n, s⟩ ⟨hn, hi, hs, hz, he⟩ hok
  dsimp only at hn hi hs hz he hok
  by_cases hlt : i < l.length
  case neg =>
    obtain rfl : i = l.length := by omega
    rw [List.drop_eq_nil_of_le (Nat.le_refl _)] at he
    simp only [printF] at he
    simp (disch := omega)
    by_cases hs0 : s = []
    · subst hs0
      refine t_read0 (by simp [look]) ?_
      simp (disch := omega)
      exact doneK hH (by simp [<- he])
    · refine t_read (l := s) (by simp [look]) hs0 (by omega) ?_
      have hdel : LHeap.del ⟨(H.next, .bld 71 5 s) :: H.objs, n⟩ H.next = ⟨H.objs, n⟩ := by simp [LHeap.del, delO, del_base hH (Nat.le_refl _)]
      rw [hdel]
      simp (disch := omega)
      exact doneK hH (by simp [<- he])
  rw [List.drop_eq_getElem_cons hlt] at he
  have hcm := mem_at hlt
  have hbk : ∀ (x : LObj) (s' : List UInt8) (n' : Nat), n + 1 <= n' -> HWk ⟨(n, x) :: (H.next, .bld 71 5 s') :: H.objs, n'⟩ ⟨(H.next, .bld 71 5 s') :: H.objs, n'⟩ /\ (LHeap.Ok ⟨(n, x) :: (H.next, .bld 71 5 s') :: H.objs, n'⟩ -> LHeap.Ok ⟨(H.next, .bld 71 5 s') :: H.objs, n'⟩) := fun x s' n' hn' =>
    back (hOk s' n hn) (HExt.cons (hOk s' n hn) (Nat.le_refl _) (HExt.refl (Nat.le_refl _)) (by dsimp only; omega))
  simp (disch := omega) [hlt]
  refine (t_formed l[i] (hc _ hcm).1).go fun n1 h1' => ?_
  cases hf : clauseOk l[i]
  · simp only [printF, hf, if_true] at he
    simp (disch := omega)
    exact doneK hH (by simp [<- he])
  simp only [printF, hf, Bool.true_eq_false, if_false] at he
  obtain ⟨p1, p2, p3⟩ := clause_parts hf
  have hCl := clauseX_len hf
  obtain ⟨A8, hAd⟩ : ∃ A8, (atomX l[i].head).data.toList = A8 := ⟨_, rfl⟩
  have hA : atomX l[i].head = ⟨⟨A8⟩⟩ := by rw [<- hAd]
  have hAl : A8.length <= 110 := by rw [<- hAd]; exact atomX_len p1
  obtain ⟨Q, hQ⟩ : ∃ Q, s ++ A8 ++ bodyX l[i].body true = Q := ⟨_, rfl⟩
  have hCQ : s ++ clauseX l[i] = Q ++ [46, 10] := by rw [<- hQ]; unfold clauseX; rw [hAd]; simp
  have hQl : Q.length + 2 = s.length + (clauseX l[i]).length := by
    have := congrArg List.length hCQ
    simp only [List.length_append, List.length_cons, List.length_nil] at this
    omega
  rw [hCQ] at he
  simp (disch := omega) [hlt]
  refine (t_show _ p1).go fun n2 h2' => ?_
  rw [hA]
  simp (disch := omega)
  refine t_write (l := s) ⟨⟨A8⟩⟩ (by rw [look_ne (by omega)]; simp [look]) (by rw [ba_size]; omega) ?_
  have hnH : ¬ H.next = n := by omega
  rw [put_under hnH, ba_data]
  simp (disch := omega)
  refine lP_enter (σ := NNZ) (fun q => (FT.node (clausesL l) (FT.node .bot (FT.node (.int 0) .nil (FT.node .bot .nil (FT.node (.int l[i].body.length) .nil .nil))) (FT.node .bot .nil (FT.node (.int l.length) .nil .nil))) (FT.node (.str ⟨⟨[]⟩⟩) (FT.node (.ptr H.next 0) .nil (FT.node (clausesL l) .nil (FT.node (.int q.i) .nil .nil))) (FT.node .bot (FT.node .bot .nil (FT.node (bodyL l[i].body) .nil .nil)) (FT.node (.int i) .nil .nil))))) (fun q => ⟨(H.next, .bld 71 5 q.s) :: H.objs, q.n⟩) (fun q => l[i].body.length - q.i)
    (fun q => H.next < q.n /\ q.i <= l[i].body.length /\ q.s ++ bodyX (l[i].body.drop q.i) (decide (q.i = 0)) = Q) ⟨0, n2, s ++ A8⟩ ⟨by dsimp only; omega, Nat.zero_le _, hQ⟩ (by simp [FT.Le, Wk]) (hbk _ _ _ (by omega)) ?_
  rintro ⟨j, n3, s3⟩ ⟨hn3, hj, he3⟩ hok3
  dsimp only at hn3 hj he3 hok3
  have hs3 : s3.length <= Q.length := by
    have := congrArg List.length he3
    rw [List.length_append] at this
    omega
  by_cases hlt3 : j < l[i].body.length
  case neg =>
    rw [List.drop_eq_nil_of_le (by omega)] at he3
    simp only [bodyX, List.append_nil] at he3
    subst he3
    simp (disch := omega) [hlt, hlt3]
    refine t_write (l := s3) ⟨⟨[46, 10]⟩⟩ (by simp [look]) (by rw [ba_size]; simp only [List.length_cons, List.length_nil]; omega) ?_
    rw [put_top, ba_data]
    simp (disch := omega) [wrap_nat (show i < 2 ^ 62 by omega)]
    exact ⟨⟨i + 1, n3, s3 ++ [46, 10]⟩, by dsimp only; omega, ⟨hn3, by dsimp only; omega, by dsimp only; simp only [List.length_append, List.length_cons, List.length_nil]; omega, by simp, he⟩, by simp [FT.Le, Wk], HWk.refl _, fun h => h⟩
  rw [List.drop_eq_getElem_cons hlt3] at he3
  have hokx := p3 _ (mem_at hlt3)
  obtain ⟨B8, hBd⟩ : ∃ B8, (litX l[i].body[j]).data.toList = B8 := ⟨_, rfl⟩
  have hB8 : litX l[i].body[j] = ⟨⟨B8⟩⟩ := by rw [<- hBd]
  have hBl : B8.length <= 120 := by rw [<- hBd]; exact litX_len hokx
  have hbk3 : ∀ (x : LObj) (s' : List UInt8) (n' : Nat), n3 + 1 <= n' -> HWk ⟨(n3, x) :: (H.next, .bld 71 5 s') :: H.objs, n'⟩ ⟨(H.next, .bld 71 5 s') :: H.objs, n'⟩ /\ (LHeap.Ok ⟨(n3, x) :: (H.next, .bld 71 5 s') :: H.objs, n'⟩ -> LHeap.Ok ⟨(H.next, .bld 71 5 s') :: H.objs, n'⟩) := fun x s' n' hn' =>
    back (hOk s' n3 hn3) (HExt.cons (hOk s' n3 hn3) (Nat.le_refl _) (HExt.refl (Nat.le_refl _)) (by dsimp only; omega))
  have hnH3 : ¬ H.next = n3 := by omega
  by_cases h0 : j = 0
  · subst h0
    have e1 : bodyX (l[i].body[0] :: l[i].body.drop (0 + 1)) (decide (0 = 0)) = [32, 105, 102, 32] ++ B8 ++ bodyX (l[i].body.drop 1) false := by simp [bodyX, <- hBd]
    rw [e1] at he3
    have he' : (s3 ++ [32, 105, 102, 32] ++ B8) ++ bodyX (l[i].body.drop 1) (decide (1 = 0)) = Q := by simpa using he3
    simp (disch := omega) [hlt, hlt3]
    refine t_write (l := s3) ⟨⟨[32, 105, 102, 32]⟩⟩ (by rw [look_ne (by omega)]; simp [look]) (by rw [ba_size]; simp only [List.length_cons, List.length_nil]; omega) ?_
    rw [put_under hnH3, ba_data]
    simp (disch := omega)
    refine (t_showLiteral _ hokx).go fun n4 hn4 => ?_
    rw [hB8]
    simp (disch := omega)
    refine t_write (l := s3 ++ [32, 105, 102, 32]) ⟨⟨B8⟩⟩ (by rw [look_ne (by omega)]; simp [look]) (by rw [ba_size]; simp only [List.length_append, List.length_cons, List.length_nil]; omega) ?_
    rw [put_under hnH3, ba_data]
    simp (disch := omega) [wrap_id]
    exact ⟨⟨1, n4, s3 ++ [32, 105, 102, 32] ++ B8⟩, by dsimp only; omega, ⟨by dsimp only; omega, by dsimp only; omega, he'⟩, by simp [FT.Le, Wk], by simpa using hbk3 _ _ n4 (by omega)⟩
  · have e1 : bodyX (l[i].body[j] :: l[i].body.drop (j + 1)) (decide (j = 0)) = [44, 32] ++ B8 ++ bodyX (l[i].body.drop (j + 1)) false := by simp [bodyX, h0, <- hBd]
    rw [e1] at he3
    have he' : (s3 ++ [44, 32] ++ B8) ++ bodyX (l[i].body.drop (j + 1)) (decide (j + 1 = 0)) = Q := by simpa using he3
    have h0' : ¬ (j : Int) = 0 := by omega
    have hmin : (if (1 : Int) < (j : Int) then (1 : Int) else (j : Int)) = 1 := by split <;> omega
    have hmin2 : (if (1 : Int) < (j : Int) then (1 : Int) else (j : Int)).toNat = 1 := by rw [hmin]; rfl
    simp (disch := omega) [hlt, hlt3, h0, h0', hmin, hmin2]
    refine t_write (l := s3) ⟨⟨[44, 32]⟩⟩ (by rw [look_ne (by omega)]; simp [look]) (by rw [ba_size]; simp only [List.length_cons, List.length_nil]; omega) ?_
    rw [put_under hnH3, ba_data]
    simp (disch := omega)
    refine (t_showLiteral _ hokx).go fun n4 hn4 => ?_
    rw [hB8]
    simp (disch := omega)
    refine t_write (l := s3 ++ [44, 32]) ⟨⟨B8⟩⟩ (by rw [look_ne (by omega)]; simp [look]) (by rw [ba_size]; simp only [List.length_append, List.length_cons, List.length_nil]; omega) ?_
    rw [put_under hnH3, ba_data]
    simp (disch := omega) [wrap_nat (show j < 2 ^ 62 by omega)]
    exact ⟨⟨j + 1, n4, s3 ++ [44, 32] ++ B8⟩, by dsimp only; omega, ⟨by dsimp only; omega, by dsimp only; omega, he'⟩, by simp [FT.Le, Wk], by simpa using hbk3 _ _ n4 (by omega)⟩
theorem wrap_nat63 {n : Nat} (h : n + 1 < 2 ^ 63) : IntKind.wrap .i64 ((n : Int) + 1) = ((n + 1 : Nat) : Int) := by
  rw [wrap_id (by omega) (by omega)]; omega
def litShort (x : Lit) : Bool := x.atom.small && (decide (x.a.s.size <= 40) && decide (x.b.s.size <= 40))
def cntB : List Lit -> Nat
  | [] => 0
  | x :: r => (if x.kind = 1 then 1 else 0) + cntB r
def clShort (c : Clause) : Bool := c.body.all litShort && (c.head.small && (decide (cntB c.body <= 3) && decide (c.body.length <= 8)))
def shortB (l : List Clause) : Bool := if 40 < l.length then true else if l.all clShort then decide (l.length <= 10) else false
theorem cntB_le : ∀ l : List Lit, cntB l <= l.length
  | [] => Nat.le_refl _
  | x :: r => by
    have := cntB_le r
    simp only [cntB, List.length_cons]
    split <;> omega
structure NNCq where
  i : Nat
  n : Nat
  c : Nat
theorem t_shortClauses (l : List Clause) (hb : ∀ c ∈ l, c.body.length < 2 ^ 63) : PureT 4 [clausesL l, .int 10] (.bool (shortB l)) := by
  refine PureT.of c4 fun H hH => ⟨Nat.le_of_ble_eq_true rfl, ?_⟩
  by_cases h1 : (40 : Int) < (l.length : Int)
  · simp (disch := omega) [b4, h1]
    exact doneK hH (by simp [shortB, show 40 < l.length by omega])
  have hl40 : l.length <= 40 := by omega
  simp (disch := omega) [b4, h1]
  obtain ⟨A, hA⟩ : ∃ A, l.all clShort = A := ⟨_, rfl⟩
  have hB : shortB l = if A then decide (l.length <= 10) else false := by unfold shortB; rw [if_neg (by omega), hA]
  obtain ⟨Vv, hVv⟩ : ∃ Vv, (if A then decide (l.length <= 10) else false) = Vv := ⟨_, rfl⟩
  rw [hB, hVv]
  refine lP_enter (σ := NN) (fun q => (FT.node (clausesL l) (FT.node (.int 10) .nil (FT.node (.int q.i) .nil .nil)) (FT.node .bot (FT.node (.bool false) .nil .nil) .nil))) (fun q => ⟨H.objs, q.n⟩) (fun q => l.length - q.i)
    (fun q => H.next <= q.n /\ q.i <= l.length /\ (l.drop q.i).all clShort = A) ⟨0, H.next⟩ ⟨Nat.le_refl _, Nat.zero_le _, hA⟩ (by simp [FT.Le, Wk]) ⟨HWk.refl _, fun h => h⟩ ?_
  rintro ⟨i, n⟩ ⟨hn, hi, he⟩ hok
  simp only at hn hi he
  by_cases hlt : i < l.length
  case neg =>
    obtain rfl : i = l.length := by omega
    rw [List.drop_eq_nil_of_le (Nat.le_refl _), List.all_nil] at he
    simp (disch := omega)
    refine pureK_i hH ?_ (by first | exact HExt.refl' _ | (repeat (first | exact HExt.refl (by first | omega | (dsimp only; omega)) | refine HExt.cons' hH (by first | omega | (dsimp only; omega)) (by first | omega | (dsimp only; omega)) ?_)))
    rw [<- hVv, <- he]
    simp
    omega
  rw [all_drop clShort hlt] at he
  have hbl := hb _ (mem_at hlt)
  obtain ⟨D, hD⟩ : ∃ D, l[i].body.all litShort = D := ⟨_, rfl⟩
  obtain ⟨M, hM⟩ : ∃ M, cntB l[i].body = M := ⟨_, rfl⟩
  have hC : clShort l[i] = (D && (l[i].head.small && (decide (M <= 3) && decide (l[i].body.length <= 8)))) := by unfold clShort; rw [hD, hM]
  rw [hC] at he
  have hML : M <= l[i].body.length := by rw [<- hM]; exact cntB_le _
  simp (disch := omega) [hlt]
  refine lP_enter (σ := NNCq) (fun q => (FT.node (clausesL l) (FT.node (.int 10) (FT.node .bot (FT.node (.int q.i) .nil .nil) .nil) (FT.node (.int i) .nil .nil)) (FT.node .bot (FT.node (.bool false) .nil .nil) (FT.node (.int q.c) .nil .nil)))) (fun q => ⟨H.objs, q.n⟩) (fun q => l[i].body.length - q.i)
    (fun q => H.next <= q.n /\ q.i <= l[i].body.length /\ q.c + cntB (l[i].body.drop q.i) = M /\ (l[i].body.drop q.i).all litShort = D) ⟨0, n, 0⟩ ⟨hn, Nat.zero_le _, by simpa using hM, hD⟩ (by simp [FT.Le, Wk]) ⟨HWk.refl _, fun h => h⟩ ?_
  rintro ⟨j, n2, cn⟩ ⟨hn2, hj, hcn, he2⟩ hok2
  dsimp only at hn2 hj hcn he2
  by_cases hlt2 : j < l[i].body.length
  case neg =>
    rw [List.drop_eq_nil_of_le (by omega)] at hcn he2
    simp only [cntB, List.all_nil, Nat.add_zero] at hcn he2
    subst hcn
    subst he2
    rw [Bool.true_and] at he
    simp (disch := omega) [hlt, hlt2]
    refine (t_short l[i].head).go fun n3 hn3 => ?_
    cases hs : l[i].head.small
    · rw [hs, Bool.false_and, Bool.false_and] at he
      simp (disch := omega)
      exact doneK hH (by simp [<- hVv, <- he])
    rw [hs, Bool.true_and] at he
    by_cases h3 : cn <= 3
    case neg =>
      have h3' : (3 : Int) < (cn : Int) := by omega
      have h3n : 3 < cn := by omega
      simp only [h3, decide_false, Bool.false_and] at he
      simp (disch := omega) [h3', h3n]
      exact doneK hH (by simp [<- hVv, <- he])
    have h3' : ¬ (3 : Int) < (cn : Int) := by omega
    have h3n : ¬ 3 < cn := by omega
    by_cases h8 : l[i].body.length <= 8
    case neg =>
      have h8' : (8 : Int) < (l[i].body.length : Int) := by omega
      have h8n : 8 < l[i].body.length := by omega
      simp only [h3, h8, decide_false, Bool.and_false, Bool.false_and] at he
      simp (disch := omega) [h3', h3n, h8', h8n, hlt]
      exact doneK hH (by simp [<- hVv, <- he])
    have h8' : ¬ (8 : Int) < (l[i].body.length : Int) := by omega
    have h8n : ¬ 8 < l[i].body.length := by omega
    simp only [h3, h8, decide_true, Bool.and_true, Bool.true_and] at he
    simp (disch := omega) [h3', h3n, h8', h8n, hlt, wrap_nat (show i < 2 ^ 62 by omega)]
    exact ⟨⟨i + 1, n3⟩, by dsimp only; omega, ⟨by dsimp only; omega, by dsimp only; omega, he⟩, by simp [FT.Le, Wk], HWk.refl _, fun h => h⟩
  rw [all_drop litShort hlt2] at he2
  rw [List.drop_eq_getElem_cons hlt2] at hcn
  simp only [cntB] at hcn
  have hdone : litShort l[i].body[j] = false -> Vv = false := by
    intro h
    rw [<- hVv]
    rw [h, Bool.false_and] at he2
    rw [<- he2, Bool.false_and, Bool.false_and] at he
    rw [<- he]; rfl
  have hnext : litShort l[i].body[j] = true -> (l[i].body.drop (j + 1)).all litShort = D := by
    intro h
    rw [h, Bool.true_and] at he2
    exact he2
  have hcnj : ∃ cn2 : Nat, (if l[i].body[j].kind = 1 then IntKind.wrap .i64 ((cn : Int) + 1) else (cn : Int)) = (cn2 : Int) /\ cn2 + cntB (l[i].body.drop (j + 1)) = M := by
    by_cases hk : l[i].body[j].kind = 1
    · rw [if_pos hk] at hcn ⊢
      exact ⟨cn + 1, wrap_nat63 (by omega), by omega⟩
    · rw [if_neg hk] at hcn ⊢
      exact ⟨cn, rfl, by omega⟩
  obtain ⟨cn2, hc1, hc2⟩ := hcnj
  have hback : ∀ (x : LObj) (n' : Nat), H.next <= n' -> H.next <= n2 -> HWk ⟨(n2, x) :: H.objs, n'⟩ ⟨H.objs, n'⟩ /\ (LHeap.Ok ⟨(n2, x) :: H.objs, n'⟩ -> LHeap.Ok ⟨H.objs, n'⟩) := fun x n' h1 h2 => back hH (HExt.cons' hH h2 h1 (HExt.refl (Nat.le_refl _)))
  by_cases hk : l[i].body[j].kind = 1
  all_goals
    first | rw [if_pos hk] at hc1 | rw [if_neg hk] at hc1
    simp (disch := omega) [hlt, hlt2, hk]
    refine (t_short l[i].body[j].atom).go fun n3 hn3 => ?_
    cases hs : l[i].body[j].atom.small
    · have := hdone (by unfold litShort; rw [hs]; rfl)
      simp (disch := omega)
      exact doneK hH (by simp [this])
    by_cases ha : (40 : Int) < (l[i].body[j].a.s.size : Int)
    · have := hdone (by
        unfold litShort
        rw [hs, show decide (l[i].body[j].a.s.size <= 40) = false from decide_eq_false (by omega)]; rfl)
      simp (disch := omega) [ha]
      exact doneK hH (by simp [this])
    by_cases hb2 : (40 : Int) < (l[i].body[j].b.s.size : Int)
    · have := hdone (by
        unfold litShort
        rw [hs, show decide (l[i].body[j].b.s.size <= 40) = false from decide_eq_false (by omega), Bool.and_false]; rfl)
      simp (disch := omega) [ha, hb2]
      exact doneK hH (by simp [this])
    have := hnext (by
      unfold litShort
      rw [hs, show decide (l[i].body[j].a.s.size <= 40) = true from decide_eq_true (by omega), show decide (l[i].body[j].b.s.size <= 40) = true from decide_eq_true (by omega)]; rfl)
    simp (disch := omega) [ha, hb2, hc1, wrap_nat63 (show j + 1 < 2 ^ 63 by omega)]
    exact ⟨⟨j + 1, n3, cn2⟩, by dsimp only; omega, ⟨by dsimp only; omega, by dsimp only; omega, hc2, this⟩, by simp [FT.Le, Wk, hc1], hback _ _ (by first | omega | (dsimp only at hn3 ⊢; omega)) (by omega)⟩
def predsL (l : List Clause) : List Strat := (allA l).foldl predF []
def p72 (k : Nat) : BCode := match k, b72.body with
  | 0, .seq x _ => x
  | 1, .seq _ (.seq x _) => x
  | 2, .seq _ (.seq _ (.seq _ (.seq x _))) => x
  | 3, .seq _ (.seq _ (.seq _ (.seq _ (.seq _ x)))) => x
  | _, _ => .bad
theorem body72 : b72.body = .seq (p72 0) (.seq (p72 1) (.seq l72a (.seq (p72 2) (.seq l72b (p72 3))))) := rfl
theorem t_rpreds (l : List Clause) (hne : l ≠ []) (hl : l.length < 2 ^ 18) (hb : ∀ c ∈ l, c.body.length < 2 ^ 18) (hA : (allA l).length < 2 ^ 18) (H : LHeap) {kv kp : HP}
    (hk : ∀ o n, H.next <= o -> o < n -> kv (.asl o 0 (predsL l).length) ⟨(o, arrS (predsL l)) :: H.objs, n⟩) : cP E0 F0 72 [clausesL l] H kv kp := by
  refine cP_of_lP c72 (Nat.le_of_ble_eq_true rfl) fun hH => ?_
  rw [body72]
  simp (disch := omega)
  refine lP_seq (lP_of_run ?_)
  simp (disch := omega) [p72, b72]
  refine lP_seq (lP_of_run ?_)
  simp (disch := omega) [p72, b72]
  refine lP_weak (t' := (FT.node (clausesL l) (FT.node .bot (FT.node (Nl) .nil .nil) .nil) .nil)) (H' := H) (fun l h => by cases h) (by simp [FT.Le, Wk]) (HWk.refl _) (fun h => h) ?_
  refine lP_seq (lP_mono (t_all l (by omega) (fun c hc => by have := hb c hc; omega) (by omega) H) ?_)
  rintro e t' H' ⟨rfl, own, n, hn, hle, hwk, hok⟩
  show lP E0 F0 (.seq (p72 2) (.seq l72b (p72 3))) t' H' _
  refine lP_weak (fun l h => by cases h) hle hwk hok ?_
  refine lP_seq (lP_of_run ?_)
  simp (disch := omega) [p72, b72]
  have hnn : allA l ≠ [] := by
    cases l with
    | nil => exact absurd rfl hne
    | cons c r => simp [allA, clAs]
  refine lP_weak (t' := (FT.node .bot (FT.node .bot (FT.node (.sl ((allA l).map atomL) own) .nil .nil) .nil) (FT.node .bot .nil (FT.node (Nl) .nil .nil)))) (H' := ⟨H.objs, n⟩) (fun l h => by cases h) (by simp [FT.Le, Wk]) (HWk.refl _) (fun h => h) ?_
  refine lP_seq (lP_mono (t_ins (allA l) own hnn hA ⟨H.objs, n⟩) ?_)
  rintro e t2 H2 ⟨rfl, o, n2, hn2, ho2, hle2, hwk2, hok2⟩
  show lP E0 F0 (p72 3) t2 H2 _
  refine lP_weak (fun l h => by cases h) hle2 hwk2 hok2 ?_
  refine lP_of_run ?_
  simp (disch := omega) [p72, b72, resP_one]
  exact keep (hk o n2 (by dsimp only at hn2; omega) ho2)
def stratsOf (m : List (PK × Int)) : List Strat := m.map fun e => ⟨e.1.1, e.1.2, e.2⟩
def pIdx (k : PK) : List (PK × Int) -> Nat
  | [] => 0
  | (j, _) :: r => if eqPK k j then 0 else pIdx k r + 1
theorem matchS_iff {x : Strat} {k : PK} : matchS x k = true ↔ keyS x = k := by
  obtain ⟨p, a, v⟩ := x
  obtain ⟨q, b⟩ := k
  simp [matchS, keyS, eqBA_iff]
theorem stratsOf_len (m : List (PK × Int)) : (stratsOf m).length = m.length := List.length_map ..
theorem idx_spec {k : PK} : ∀ {m : List (PK × Int)}, k ∈ pKeys m -> pIdx k m < m.length /\ (∀ i, findSt (stratsOf m) k i = i + pIdx k m) /\ m[pIdx k m]? = some (k, pVal m k) /\ ∀ v, pSet k v m = m.set (pIdx k m) (k, v)
  | [], h => by cases h
  | (j, u) :: r, h => by
    by_cases hk : eqPK k j = true
    · have e := eqPK_iff.1 hk
      subst e
      have hm : matchS ⟨k.1, k.2, u⟩ k = true := matchS_iff.2 rfl
      refine ⟨by simp [pIdx, hk], fun i => ?_, by simp [pIdx, hk, pVal, pGet], fun v => by simp [pIdx, hk, pSet]⟩
      show findSt (⟨k.1, k.2, u⟩ :: stratsOf r) k i = _
      simp [findSt, hm, pIdx, hk]
    · have hr : k ∈ pKeys r := by
        rcases List.mem_cons.1 (show k ∈ j :: pKeys r from h) with e | h
        · exact absurd (eqPK_iff.2 e) hk
        · exact h
      obtain ⟨a1, a2, a3, a4⟩ := idx_spec hr
      have hm : matchS ⟨j.1, j.2, u⟩ k = false := by
        cases hb : matchS ⟨j.1, j.2, u⟩ k with
        | false => rfl
        | true =>
          have e : j = k := matchS_iff.1 hb
          exact absurd (eqPK_iff.2 e.symm) hk
      have hkf : eqPK k j = false := by simpa using hk
      refine ⟨by simp [pIdx, hkf]; omega, fun i => ?_, ?_, fun v => by simp [pIdx, hkf, pSet, a4 v]⟩
      · show findSt (⟨j.1, j.2, u⟩ :: stratsOf r) k i = _
        simp only [findSt, hm, pIdx, hkf, Bool.false_eq_true, if_false]
        rw [a2 (i + 1)]
        omega
      · simp only [pIdx, hkf, Bool.false_eq_true, if_false, List.getElem?_cons_succ, a3]
        simp [pVal, pGet, hkf]
theorem strats_get {m : List (PK × Int)} {i : Nat} (h : i < m.length) : (stratsOf m)[i]'(by rw [stratsOf_len]; exact h) = ⟨m[i].1.1, m[i].1.2, m[i].2⟩ := by simp [stratsOf]
theorem strats_set (m : List (PK × Int)) (i : Nat) (k : PK) (v : Int) : stratsOf (m.set i (k, v)) = (stratsOf m).set i ⟨k.1, k.2, v⟩ := by simp [stratsOf, List.map_set]
theorem lvl_ld {m : List (PK × Int)} {k : PK} (hk : k ∈ pKeys m) {o : Nat} {ob : List (Nat × LObj)} {n : Nat} (hl : look o ob = some (arrS (stratsOf m))) : loadL ⟨ob, n⟩ none (.ptr o (pIdx k m * 3 + 2)) = some (.int (pVal m k)) := by
  obtain ⟨a1, a2, a3, a4⟩ := idx_spec hk
  have h := ldA (n := n) hl (j := pIdx k m) (c := 2) (by rw [stratsOf_len]; exact a1) (by omega)
  rw [h, strats_get a1]
  rw [List.getElem?_eq_getElem a1] at a3
  have := Option.some.inj a3
  rw [this]
  rfl
theorem lvl_ia {m : List (PK × Int)} {k : PK} (hk : k ∈ pKeys m) {o : Nat} {ob : List (Nat × LObj)} {n : Nat} (hl : look o ob = some (arrS (stratsOf m))) : iaL ⟨ob, n⟩ 3 (.asl o 0 m.length) (.int (pIdx k m : Int)) = some (.ptr o (pIdx k m * 3)) :=
  iaA hl (idx_spec hk).1
theorem flat_set1 (A : List Strat) {j : Nat} (hj : j < A.length) (v : Int) : (A.flatMap stratC).take (j * 3 + 2) ++ [.int v] ++ (A.flatMap stratC).drop (j * 3 + 2 + 1) = (A.set j ⟨A[j].pred, A[j].args, v⟩).flatMap stratC := by
  rw [<- flat_store stratC_len hj, List.take_add]
  have e : ((A.flatMap stratC).drop (j * 3)).take 2 = [.str A[j].pred, .int A[j].args] := by
    have h := flat_load stratC_len hj
    have : ((A.flatMap stratC).drop (j * 3)).take 2 = (((A.flatMap stratC).drop (j * 3)).take 3).take 2 := by rw [List.take_take]; rfl
    rw [this, h]
    rfl
  rw [e]
  simp
theorem lvl_st {m : List (PK × Int)} {k : PK} (hk : k ∈ pKeys m) (v : Int) {o : Nat} {ob : List (Nat × LObj)} {n : Nat} (hl : look o ob = some (arrS (stratsOf m))) : stL ⟨ob, n⟩ 1 (.ptr o (pIdx k m * 3 + 2)) (.int v) = some ⟨putO o (arrS (stratsOf (pSet k v m))) ob, n⟩ := by
  obtain ⟨a1, a2, a3, a4⟩ := idx_spec hk
  have a1' : pIdx k m < (stratsOf m).length := by rw [stratsOf_len]; exact a1
  rw [a4 v, strats_set]
  have hfl : ((stratsOf m).flatMap stratC).length = m.length * 3 := by rw [flat_len stratC_len, stratsOf_len]
  have hs := flat_set1 (stratsOf m) a1' v
  have hg : (stratsOf m)[pIdx k m].pred = k.1 /\ (stratsOf m)[pIdx k m].args = k.2 := by
    rw [strats_get a1]
    rw [List.getElem?_eq_getElem a1] at a3
    rw [Option.some.inj a3]
    exact ⟨rfl, rfl⟩
  rw [hg.1, hg.2] at hs
  unfold stL
  simp only [hl]
  rw [if_pos ⟨rfl, rfl, by rw [hfl]; omega⟩]
  show some (LHeap.put ⟨ob, n⟩ o (.arr 3 (((stratsOf m).flatMap stratC).take (pIdx k m * 3 + 2) ++ [.int v] ++ ((stratsOf m).flatMap stratC).drop (pIdx k m * 3 + 2 + 1)))) = _
  rw [hs]
  rfl
def kIdx (k : PK) : List PK -> Nat
  | [] => 0
  | j :: r => if eqPK k j then 0 else kIdx k r + 1
theorem kIdx_eq (k : PK) : ∀ m : List (PK × Int), pIdx k m = kIdx k (pKeys m)
  | [] => rfl
  | (j, u) :: r => by
    show pIdx k ((j, u) :: r) = kIdx k (j :: pKeys r)
    simp only [pIdx, kIdx, kIdx_eq k r]
section
variable {m : List (PK × Int)} {V : List PK} {k : PK} (hV : pKeys m = V) (hk : k ∈ V) {o n : Nat} {ob : List (Nat × LObj)} (hl : look o ob = some (arrS (stratsOf m)))
include hV hk hl
theorem v_ld : loadL ⟨ob, n⟩ none (.ptr o (kIdx k V * 3 + 2)) = some (.int (pVal m k)) := by
  subst hV; rw [<- kIdx_eq]; exact lvl_ld hk hl
theorem v_ia : iaL ⟨ob, n⟩ 3 (.asl o 0 V.length) (.int (kIdx k V : Int)) = some (.ptr o (kIdx k V * 3)) := by
  subst hV; rw [<- kIdx_eq, pKeys_len]; exact lvl_ia hk hl
theorem v_st (v : Int) : stL ⟨ob, n⟩ 1 (.ptr o (kIdx k V * 3 + 2)) (.int v) = some ⟨putO o (arrS (stratsOf (pSet k v m))) ob, n⟩ := by
  subst hV; rw [<- kIdx_eq]; exact lvl_st hk v hl
theorem v_find {a : Atom} (ha : ofA a = k) (hN : V.length < 2 ^ 40) {kv kp : HP} (hkv : ∀ n', n <= n' -> kv (.int (kIdx k V : Int)) ⟨ob, n'⟩) : cP E0 F0 45 [.asl o 0 V.length, atomL a] ⟨ob, n⟩ kv kp := by
  subst hV; subst ha
  have h := t_rfindA (stratsOf m) o ob n hl a (by rw [stratsOf_len]; rw [pKeys_len] at hN; exact hN) (kv := kv) (kp := kp) fun n' hn => by
    rw [(idx_spec hk).2.1 0]
    have := hkv n' hn
    rw [<- kIdx_eq] at this
    simpa using this
  rw [stratsOf_len] at h
  rw [pKeys_len]
  exact h
end
theorem InP.mono {m : List (PK × Int)} {N M : Int} (h : InP m N) (hle : N <= M) : InP m M := fun k => ⟨(h k).1, Int.le_trans (h k).2 hle⟩
theorem InP_any {m : List (PK × Int)} {N : Int} (h0 : ∀ k, 0 <= pVal m k) (hN : 0 <= N) (h : m.any (fun e => decide (N < e.2)) = false) : InP m N := by
  intro k
  refine ⟨h0 k, ?_⟩
  by_cases hk : k ∈ pKeys m
  · obtain ⟨a1, _, a3, _⟩ := idx_spec hk
    have := List.any_eq_false.1 h _ (List.mem_of_getElem? a3)
    simp only [decide_eq_true_eq] at this
    omega
  · have : pVal m k = 0 := by
      have go : ∀ {m : List (PK × Int)}, k ∉ pKeys m -> pGet k m = none := by
        intro m
        induction m with
        | nil => intro _; rfl
        | cons e r ih =>
          obtain ⟨j, u⟩ := e
          intro hn
          have h1 : ¬ eqPK k j = true := fun e => hn (by rw [eqPK_iff.1 e]; exact List.mem_cons_self)
          simp only [pGet]
          rw [if_neg h1]
          exact ih fun hm => hn (List.mem_cons_of_mem _ hm)
      unfold pVal
      rw [go hk]
      rfl
    omega
theorem any_drop2 {α : Type} (p : α -> Bool) {l : List α} {i : Nat} (h : i < l.length) : (l.drop i).any p = (p l[i] || (l.drop (i + 1)).any p) := by
  rw [List.drop_eq_getElem_cons h, List.any_cons]
structure NNR where
  i : Nat
  n : Nat
  m : List (PK × Int)
  ch : Bool
theorem t_rlevels (l : List Clause) (hne : l ≠ []) (hl : l.length < 2 ^ 18) (hb : ∀ c ∈ l, c.body.length < 2 ^ 18) (hA : (allA l).length < 2 ^ 18) (hkd : ∀ c ∈ l, ∀ x ∈ c.body, 1 <= x.kind) (m0 : List (PK × Int)) (hm0 : stratsOf m0 = predsL l) (hz : ∀ k, pVal m0 k = 0)
    (hK : ∀ c ∈ l, ∀ k ∈ predC c, k ∈ pKeys m0) (R : Option (List (PK × Int))) (hR : refN l (m0.length + 2) m0 = R) (H : LHeap) {kv kp : HP} (hk1 : R = none -> ∀ n, H.next <= n -> kv (.tup [Nl, .bool false]) ⟨H.objs, n⟩)
    (hk2 : ∀ m, R = some m -> ∀ o n, H.next <= o -> o < n -> kv (.tup [.asl o 0 m.length, .bool true]) ⟨(o, arrS (stratsOf m)) :: H.objs, n⟩) : cP E0 F0 43 [clausesL l] H kv kp := by
  refine cP_of_fn c43 fun hH => ⟨Nat.le_of_ble_eq_true rfl, ?_⟩
  simp (disch := omega) [b43]
  refine t_rpreds l hne hl hb hA H fun o n0 ho hn0 => ?_
  obtain ⟨V, hV⟩ : ∃ V, pKeys m0 = V := ⟨_, rfl⟩
  rw [hV] at hK
  have hlen0 : m0.length = V.length := by rw [<- hV, pKeys_len]
  have hNb : V.length < 2 ^ 18 := by
    rw [<- hlen0, <- stratsOf_len, hm0]
    have := (fold_len (allA l) []).1
    unfold predsL
    simp only [List.length_nil] at this
    omega
  rw [show (predsL l).length = V.length by rw [<- hm0, stratsOf_len, hlen0], <- hm0]
  rw [hlen0] at hR
  have hVm : ∀ m : List (PK × Int), pKeys m = V -> m.length = V.length := fun m h => by rw [<- h, pKeys_len]
  have hOk : ∀ m : List (PK × Int), ∀ n, o < n -> LHeap.Ok ⟨(o, arrS (stratsOf m)) :: H.objs, n⟩ := fun m n hn => ⟨hn, Desc.mono hH ho⟩
  have hbase : ∀ (m : List (PK × Int)) (n : Nat), o < n -> HWk ⟨(o, arrS (stratsOf m)) :: H.objs, n⟩ ⟨H.objs, n⟩ /\ (LHeap.Ok ⟨(o, arrS (stratsOf m)) :: H.objs, n⟩ -> LHeap.Ok ⟨H.objs, n⟩) := fun m n hn =>
    ⟨⟨Nat.le_refl _, fun i x hx => by
      have := hH.look hx
      simp only [look]
      rw [if_neg (by omega)]
      exact hx⟩, fun _ => Desc.mono hH (by dsimp only; omega)⟩
  simp (disch := omega)
  refine lP_enter (σ := NNP) (fun q => (FT.node (clausesL l) (FT.node .bot (FT.node (.bool false) .nil .nil) (FT.node (.int q.i) .nil .nil)) (FT.node (Nl) (FT.node (.asl o 0 V.length) .nil .nil) .nil))) (fun q => ⟨(o, arrS (stratsOf q.m)) :: H.objs, q.n⟩) (fun q => V.length + 2 - q.i)
    (fun q => n0 <= q.n /\ q.i <= V.length + 2 /\ pKeys q.m = V /\ InP q.m V.length /\ refN l (V.length + 2 - q.i) q.m = R) ⟨0, n0, m0⟩ ⟨Nat.le_refl _, Nat.zero_le _, hV, fun k => by dsimp only; rw [hz k]; omega, hR⟩ (by simp [FT.Le, Wk]) ⟨HWk.refl _, fun h => h⟩ ?_
  rintro ⟨r, n, m⟩ ⟨hn, hr, hkm, hin, he⟩ hok
  dsimp only at hn hr hkm hin he hok
  by_cases hrl : r <= V.length + 1
  case neg =>
    have hrl' : ¬ ((r : Int) <= (V.length : Int) + 1) := by omega
    rw [show V.length + 2 - r = 0 by omega] at he
    simp (disch := omega) [wrap_nat (show V.length < 2 ^ 62 by omega), hrl']
    obtain ⟨g1, g2⟩ := hbase m n (by omega)
    exact ⟨_, g1, g2, hk1 he.symm n (by omega)⟩
  have hrl' : ((r : Int) <= (V.length : Int) + 1) := by omega
  rw [show V.length + 2 - r = (V.length + 1 - r) + 1 by omega] at he
  obtain ⟨Q, hQ⟩ : ∃ Q, l.foldl clStep (m, false) = Q := ⟨_, rfl⟩
  rw [refN, hQ] at he
  simp (disch := omega) [wrap_nat (show V.length < 2 ^ 62 by omega), hrl']
  refine lP_enter (σ := NNR) (fun q => (FT.node (clausesL l) (FT.node .bot (FT.node (.bool false) (FT.node (.int q.i) .nil .nil) .nil) (FT.node (.int r) .nil .nil)) (FT.node (Nl) (FT.node (.asl o 0 V.length) .nil .nil) (FT.node (.bool q.ch) .nil .nil)))) (fun q => ⟨(o, arrS (stratsOf q.m)) :: H.objs, q.n⟩) (fun q => l.length - q.i)
    (fun q => n0 <= q.n /\ q.i <= l.length /\ pKeys q.m = V /\ InP q.m (V.length + q.i * 2 ^ 18) /\ (l.drop q.i).foldl clStep (q.m, q.ch) = Q) ⟨0, n, m, false⟩ ⟨hn, Nat.zero_le _, hkm, hin.mono (by dsimp only; omega), hQ⟩ (by simp [FT.Le, Wk]) ⟨HWk.refl _, fun h => h⟩ ?_
  rintro ⟨i, n2, m2, ch2⟩ ⟨hn2, hi, hkm2, hin2, he2⟩ hok2
  dsimp only at hn2 hi hkm2 hin2 he2 hok2
  by_cases hlt : i < l.length
  case neg =>
    rw [List.drop_eq_nil_of_le (by omega)] at he2
    simp only [List.foldl_nil] at he2
    subst he2
    cases ch2
    · dsimp only at he
      simp (disch := omega) [hlt]
      rw [<- hVm m2 hkm2]
      exact keep (hk2 m2 he.symm o n2 ho (by omega))
    dsimp only at he
    rw [hVm m2 hkm2] at he
    simp (disch := omega) [hlt]
    have hnn2 : ∀ k, 0 <= pVal m2 k := fun k => (hin2 k).1
    obtain ⟨B, hB⟩ : ∃ B, m2.any (fun e => decide ((V.length : Int) < e.2)) = B := ⟨_, rfl⟩
    rw [hB] at he
    refine lP_enter (σ := NN) (fun q => (FT.node (clausesL l) (FT.node .bot (FT.node (.bool false) .nil .nil) (FT.node (.int r) .nil .nil)) (FT.node (Nl) (FT.node (.asl o 0 V.length) .nil (FT.node (.int q.i) .nil .nil)) .nil))) (fun q => ⟨(o, arrS (stratsOf m2)) :: H.objs, q.n⟩) (fun q => V.length - q.i)
      (fun q => n0 <= q.n /\ q.i <= V.length /\ (m2.drop q.i).any (fun e => decide ((V.length : Int) < e.2)) = B) ⟨0, n2⟩ ⟨hn2, Nat.zero_le _, hB⟩ (by simp [FT.Le, Wk]) ⟨HWk.refl _, fun h => h⟩ ?_
    rintro ⟨j, n3⟩ ⟨hn3, hj, hB3⟩ hok3
    simp only at hn3 hj hB3
    by_cases hlt3 : j < V.length
    case neg =>
      rw [List.drop_eq_nil_of_le (by rw [hVm m2 hkm2]; omega), List.any_nil] at hB3
      subst hB3
      simp (disch := omega) [hlt3, wrap_nat (show r < 2 ^ 62 by omega)]
      exact ⟨⟨r + 1, n3, m2⟩, by dsimp only; omega, ⟨by dsimp only; omega, by dsimp only; omega, hkm2, InP_any hnn2 (by omega) hB, by dsimp only; rw [show V.length + 2 - (r + 1) = V.length + 1 - r by omega]; simpa using he⟩, by simp [FT.Le, Wk], HWk.refl _, fun h => h⟩
    have hjm : j < m2.length := by rw [hVm m2 hkm2]; exact hlt3
    rw [any_drop2 _ hjm] at hB3
    have hlo3 : look o ((o, arrS (stratsOf m2)) :: H.objs) = some (arrS (stratsOf m2)) := by simp [look]
    have ia3 := iaA (n := n3) hlo3 hlt3
    have l3 : loadL ⟨(o, arrS (stratsOf m2)) :: H.objs, n3⟩ none (.ptr o (j * 3 + 2)) = some (.int m2[j].2) := by
      rw [ldA (c := 2) hlo3 (by rw [stratsOf_len]; exact hjm) (by omega), strats_get hjm]
      rfl
    by_cases hbig : (V.length : Int) < m2[j].2
    · simp [hbig] at hB3
      subst hB3
      simp at he
      simp (disch := omega) [-iaL, -loadL, ia3, l3, hlt3, hbig]
      obtain ⟨g1, g2⟩ := hbase m2 n3 (by omega)
      exact ⟨_, g1, g2, hk1 he.symm n3 (by omega)⟩
    · simp [hbig] at hB3
      simp (disch := omega) [-iaL, -loadL, ia3, l3, hlt3, hbig, wrap_nat (show j < 2 ^ 62 by omega)]
      exact ⟨⟨j + 1, n3⟩, by dsimp only; omega, ⟨by dsimp only; omega, by dsimp only; omega, by simpa using hB3⟩, by simp [FT.Le, Wk], HWk.refl _, fun h => h⟩
  rw [List.drop_eq_getElem_cons hlt, List.foldl_cons] at he2
  have hcm := mem_at hlt
  have hbl := hb _ hcm
  have hhd : ofA l[i].head ∈ V := hK _ hcm _ List.mem_cons_self
  have hlo : ∀ m' : List (PK × Int), look o ((o, arrS (stratsOf m')) :: H.objs) = some (arrS (stratsOf m')) := fun m' => by simp [look]
  simp (disch := omega) [hlt]
  refine v_find hkm2 hhd (hlo m2) rfl (by omega) fun n3 hn3 => ?_
  obtain ⟨W, hW⟩ : ∃ W, clStep (m2, ch2) l[i] = W := ⟨_, rfl⟩
  rw [hW] at he2
  simp (disch := omega) [hlt]
  refine lP_enter (σ := NNR) (fun q => (FT.node (clausesL l) (FT.node .bot (FT.node (.bool false) (FT.node (.int i) .nil .nil) .nil) (FT.node (.int r) (FT.node (.int q.i) .nil .nil) .nil)) (FT.node (Nl) (FT.node (.asl o 0 V.length) (FT.node (.int (kIdx (ofA l[i].head) V : Int)) .nil .nil) .nil) (FT.node (.bool q.ch) .nil .nil)))) (fun q => ⟨(o, arrS (stratsOf q.m)) :: H.objs, q.n⟩) (fun q => l[i].body.length - q.i)
    (fun q => n0 <= q.n /\ q.i <= l[i].body.length /\ pKeys q.m = V /\ InP q.m (V.length + i * 2 ^ 18 + q.i) /\ (l[i].body.drop q.i).foldl (litStep (ofA l[i].head)) (q.m, q.ch) = W) ⟨0, n3, m2, ch2⟩ ⟨by dsimp only; omega, Nat.zero_le _, hkm2, hin2.mono (by dsimp only; omega), hW⟩ (by simp [FT.Le, Wk]) ⟨HWk.refl _, fun h => h⟩ ?_
  rintro ⟨j, n4, m4, ch4⟩ ⟨hn4, hj, hkm4, hin4, he4⟩ hok4
  dsimp only at hn4 hj hkm4 hin4 he4 hok4
  by_cases hlt4 : j < l[i].body.length
  case neg =>
    rw [List.drop_eq_nil_of_le (by omega)] at he4
    simp only [List.foldl_nil] at he4
    subst he4
    simp (disch := omega) [hlt, hlt4, wrap_nat (show i < 2 ^ 62 by omega)]
    exact ⟨⟨i + 1, n4, m4, ch4⟩, by dsimp only; omega, ⟨by dsimp only; omega, by dsimp only; omega, hkm4, hin4.mono (by dsimp only; omega), he2⟩, by simp [FT.Le, Wk], HWk.refl _, fun h => h⟩
  rw [List.drop_eq_getElem_cons hlt4, List.foldl_cons] at he4
  have hkx := hkd _ hcm _ (mem_at hlt4)
  have hfg : ∀ (x : LObj) (m' : List (PK × Int)) (n' : Nat), n4 + 1 <= n' -> HWk ⟨(n4, x) :: (o, arrS (stratsOf m')) :: H.objs, n'⟩ ⟨(o, arrS (stratsOf m')) :: H.objs, n'⟩ /\ (LHeap.Ok ⟨(n4, x) :: (o, arrS (stratsOf m')) :: H.objs, n'⟩ -> LHeap.Ok ⟨(o, arrS (stratsOf m')) :: H.objs, n'⟩) := fun x m' n' hn' =>
    back (hOk m' n4 (by omega)) (HExt.cons (hOk m' n4 (by omega)) (Nat.le_refl _) (HExt.refl (Nat.le_refl _)) (by dsimp only; omega))
  by_cases hk2' : l[i].body[j].kind <= 2
  case neg =>
    have hst : litStep (ofA l[i].head) (m4, ch4) l[i].body[j] = (m4, ch4) := by
      unfold litStep
      rw [if_neg]
      have h1 : ¬ l[i].body[j].kind = 1 := by omega
      have h2 : ¬ l[i].body[j].kind = 2 := by omega
      have := (hin4 (ofA l[i].head)).1
      simp only [lstL, h1, h2, if_false]
      omega
    rw [hst] at he4
    have hgt : (2 : Int) < l[i].body[j].kind := by omega
    simp (disch := omega) [hlt, hlt4, hgt, wrap_nat (show j < 2 ^ 62 by omega)]
    obtain ⟨g1, g2⟩ := hfg (.cells (litC l[i].body[j])) m4 (n4 + 1) (Nat.le_refl _)
    exact ⟨⟨j + 1, n4 + 1, m4, ch4⟩, by dsimp only; omega, ⟨by dsimp only; omega, by dsimp only; omega, hkm4, hin4.mono (by dsimp only; omega), he4⟩, by simp [FT.Le, Wk], g1, g2⟩
  have hngt : ¬ (2 : Int) < l[i].body[j].kind := by omega
  have hk12 : l[i].body[j].kind = 1 \/ l[i].body[j].kind = 2 := by omega
  have hat : ofA l[i].body[j].atom ∈ V := hK _ hcm _ (List.mem_cons_of_mem _ (List.mem_map.2 ⟨l[i].body[j], List.mem_filter.2 ⟨mem_at hlt4, by simpa using hk12⟩, rfl⟩))
  have hinS := litStep_in (h := ofA l[i].head) (s := (m4, ch4)) (x := l[i].body[j]) hin4
  have hkS := litStep_keys (h := ofA l[i].head) (s := (m4, ch4)) (x := l[i].body[j]) (by dsimp only; rw [hkm4]; exact hhd)
  dsimp only at hinS hkS
  rw [hkm4] at hkS
  have hc : (V.length : Int) + i * 2 ^ 18 + (j : Int) + 1 = V.length + i * 2 ^ 18 + ((j + 1 : Nat) : Int) := by omega
  rw [hc] at hinS
  have hpv : ∀ k : PK, 0 <= pVal m4 k /\ pVal m4 k < 2 ^ 42 := fun k => ⟨(hin4 k).1, by have := (hin4 k).2; omega⟩
  obtain ⟨ob4, hob4⟩ : ∃ ob4 : List (Nat × LObj), ob4 = (n4, LObj.cells (litC l[i].body[j])) :: (o, arrS (stratsOf m4)) :: H.objs := ⟨_, rfl⟩
  have hlo4 : look o ob4 = some (arrS (stratsOf m4)) := by rw [hob4, look_ne (by omega)]; exact hlo m4
  have hlit : look n4 ob4 = some (.cells (litC l[i].body[j])) := by rw [hob4]; exact look_self _ _ _
  have hput : ∀ m' : List (PK × Int), putO o (arrS (stratsOf m')) ob4 = (n4, LObj.cells (litC l[i].body[j])) :: (o, arrS (stratsOf m')) :: H.objs := fun m' => by
    rw [hob4, putO_ne (by omega)]
    simp [putO]
  simp (disch := omega) [hlt, hlt4, hngt]
  rw [show [LV.int l[i].body[j].kind, LV.str l[i].body[j].atom.pred, argsL l[i].body[j].atom.args, LV.int l[i].body[j].a.kind, LV.int l[i].body[j].a.n, LV.str l[i].body[j].a.s, LV.int l[i].body[j].b.kind, LV.int l[i].body[j].b.n, LV.str l[i].body[j].b.s] = litC l[i].body[j] from rfl, <- hob4]
  refine v_find hkm4 hat hlo4 rfl (by omega) fun n5 hn5 => ?_
  have ia1 := v_ia (n := n5) hkm4 hat hlo4
  have ia2 := v_ia (n := n5) hkm4 hhd hlo4
  have ld1 := v_ld (n := n5) hkm4 hat hlo4
  have ld2 := v_ld (n := n5) hkm4 hhd hlo4
  have ldk : loadL ⟨ob4, n5⟩ none (.ptr n4 0) = some (.int l[i].body[j].kind) := by simp [loadL, hlit, partL]
  have st := v_st (n := n5) hkm4 hhd hlo4
  have hpa := hpv (ofA l[i].body[j].atom)
  rcases hk12 with hk | hk
  · have hv : lstL m4 l[i].body[j] = pVal m4 (ofA l[i].body[j].atom) := by simp [lstL, hk]
    by_cases hlt5 : pVal m4 (ofA l[i].head) < pVal m4 (ofA l[i].body[j].atom)
    · have hst : litStep (ofA l[i].head) (m4, ch4) l[i].body[j] = (pSet (ofA l[i].head) (pVal m4 (ofA l[i].body[j].atom)) m4, true) := by
        unfold litStep; dsimp only; rw [hv, if_pos hlt5]
      rw [hst] at hinS hkS he4
      simp (disch := omega) [-iaL, -loadL, -stL, ia1, ia2, ld1, ld2, ldk, st, hk, hlt5, hput, wrap_nat (show j < 2 ^ 62 by omega)]
      obtain ⟨g1, g2⟩ := hfg (.cells (litC l[i].body[j])) (pSet (ofA l[i].head) (pVal m4 (ofA l[i].body[j].atom)) m4) n5 hn5
      exact ⟨⟨j + 1, n5, pSet (ofA l[i].head) (pVal m4 (ofA l[i].body[j].atom)) m4, true⟩, by dsimp only; omega, ⟨by dsimp only; omega, by dsimp only; omega, hkS, hinS, he4⟩, by simp [FT.Le, Wk], g1, g2⟩
    · have hst : litStep (ofA l[i].head) (m4, ch4) l[i].body[j] = (m4, ch4) := by
        unfold litStep; dsimp only; rw [hv, if_neg hlt5]
      rw [hst] at hinS hkS he4
      simp (disch := omega) [-iaL, -loadL, -stL, ia1, ia2, ld1, ld2, ldk, hk, hlt5, wrap_nat (show j < 2 ^ 62 by omega)]
      obtain ⟨g1, g2⟩ := hfg (.cells (litC l[i].body[j])) m4 n5 hn5
      rw [<- hob4] at g1 g2
      exact ⟨⟨j + 1, n5, m4, ch4⟩, by dsimp only; omega, ⟨by dsimp only; omega, by dsimp only; omega, hkS, hinS, he4⟩, by simp [FT.Le, Wk], g1, g2⟩
  · have hv : lstL m4 l[i].body[j] = pVal m4 (ofA l[i].body[j].atom) + 1 := by simp [lstL, hk]
    by_cases hlt5 : pVal m4 (ofA l[i].head) < pVal m4 (ofA l[i].body[j].atom) + 1
    · have hst : litStep (ofA l[i].head) (m4, ch4) l[i].body[j] = (pSet (ofA l[i].head) (pVal m4 (ofA l[i].body[j].atom) + 1) m4, true) := by
        unfold litStep; dsimp only; rw [hv, if_pos hlt5]
      rw [hst] at hinS hkS he4
      simp (disch := omega) [-iaL, -loadL, -stL, ia1, ia2, ld1, ld2, ldk, st, hk, wrap_id, hlt5, hput, wrap_nat (show j < 2 ^ 62 by omega)]
      obtain ⟨g1, g2⟩ := hfg (.cells (litC l[i].body[j])) (pSet (ofA l[i].head) (pVal m4 (ofA l[i].body[j].atom) + 1) m4) n5 hn5
      exact ⟨⟨j + 1, n5, pSet (ofA l[i].head) (pVal m4 (ofA l[i].body[j].atom) + 1) m4, true⟩, by dsimp only; omega, ⟨by dsimp only; omega, by dsimp only; omega, hkS, hinS, he4⟩, by simp [FT.Le, Wk], g1, g2⟩
    · have hst : litStep (ofA l[i].head) (m4, ch4) l[i].body[j] = (m4, ch4) := by
        unfold litStep; dsimp only; rw [hv, if_neg hlt5]
      rw [hst] at hinS hkS he4
      simp (disch := omega) [-iaL, -loadL, -stL, ia1, ia2, ld1, ld2, ldk, hk, wrap_id, hlt5, wrap_nat (show j < 2 ^ 62 by omega)]
      obtain ⟨g1, g2⟩ := hfg (.cells (litC l[i].body[j])) m4 n5 hn5
      rw [<- hob4] at g1 g2
      exact ⟨⟨j + 1, n5, m4, ch4⟩, by dsimp only; omega, ⟨by dsimp only; omega, by dsimp only; omega, hkS, hinS, he4⟩, by simp [FT.Le, Wk], g1, g2⟩
structure SmallL (l : List Clause) : Prop where
  ok3 : l.length <= 40 -> ∀ c ∈ l, Clause.ok3 c
theorem checkF_ok : ∀ (l : List Clause) (i : Nat), (checkF l i).1 = 0 -> ∀ c ∈ l, clauseOk c = true
  | [], _, _, c, hc => by cases hc
  | c :: l, i, h, d, hd => by
    simp only [checkF] at h
    by_cases hf : clauseOk c = false
    · rw [if_pos hf] at h; simp at h
    · rw [if_neg hf] at h
      by_cases hs : safeB c = false
      · rw [if_pos hs] at h; simp at h
      · rw [if_neg hs] at h
        rcases List.mem_cons.1 hd with rfl | hd
        · simpa using hf
        · exact checkF_ok l (i + 1) h d hd
theorem check_ok {l : List Clause} (h : (checkB l).1 = 0) : l.length <= 40 /\ ∀ c ∈ l, clauseOk c = true := by
  unfold checkB at h
  split at h
  · simp at h
  · rename_i h1
    exact ⟨by omega, checkF_ok l 0 h⟩
theorem lit_kind {x : Lit} (h : litOk x = true) : 1 <= x.kind /\ x.kind <= 6 := by
  unfold litOk at h
  split at h
  · omega
  · split at h
    · omega
    · cases h
structure GoodL (l : List Clause) : Prop where
  len : l.length <= 40
  body : ∀ c ∈ l, c.body.length <= 5
  kind : ∀ c ∈ l, ∀ x ∈ c.body, 1 <= x.kind /\ x.kind <= 6
theorem good_of {l : List Clause} (h : (checkB l).1 = 0) : GoodL l := by
  obtain ⟨h1, h2⟩ := check_ok h
  exact ⟨h1, fun c hc => (clause_parts (h2 c hc)).2.1, fun c hc x hx => lit_kind ((clause_parts (h2 c hc)).2.2 x hx)⟩
theorem GoodL.initLen {l : List Clause} (h : GoodL l) : (l.foldl initCl []).length <= 240 := by
  have h1 := (init_fold l [] fun _ => rfl).2.2.2
  have h2 : ∀ l : List Clause, (∀ c ∈ l, c.body.length <= 5) -> (l.map fun c => c.body.length + 1).sum <= 6 * l.length := by
    intro l
    induction l with
    | nil => intro _; exact Nat.le_refl _
    | cons c l ih =>
      intro hb
      have a := ih fun c hc => hb c (List.mem_cons_of_mem _ hc)
      have b := hb c List.mem_cons_self
      simp only [List.map_cons, List.sum_cons, List.length_cons]
      omega
  have h3 := h2 l h.body
  have h4 := h.len
  simp only [List.length_nil] at h1
  omega
theorem GoodL.allLen {l : List Clause} (h : GoodL l) : (allA l).length <= 240 := by
  have h2 : ∀ l : List Clause, (∀ c ∈ l, c.body.length <= 5) -> (allA l).length <= 6 * l.length := by
    intro l
    induction l with
    | nil => intro _; exact Nat.le_refl _
    | cons c l ih =>
      intro hb
      have a := ih fun c hc => hb c (List.mem_cons_of_mem _ hc)
      have b := hb c List.mem_cons_self
      have e : (clAs c).length <= c.body.length + 1 := by
        unfold clAs
        have g : ∀ b : List Lit, (b.flatMap litAs).length <= b.length := by
          intro b
          induction b with
          | nil => exact Nat.le_refl _
          | cons x b ih =>
            rw [List.flatMap_cons, List.length_append, List.length_cons]
            have : (litAs x).length <= 1 := by unfold litAs; split <;> simp
            omega
        have := g c.body
        simp only [List.length_cons]
        omega
      have : allA (c :: l) = clAs c ++ allA l := rfl
      rw [this, List.length_append, List.length_cons]
      omega
  have h3 := h2 l h.body
  have h4 := h.len
  omega
theorem t_checked (l : List Clause) (hl : SmallL l) (fuel : Nat) (R : Option (List (PK × Int))) (hR : (checkB l).1 = 0 -> levN l fuel (l.foldl initCl []) = some R) (H : LHeap) {kv kp : HP}
    (h0 : (checkB l).1 ≠ 0 -> ∀ n, H.next <= n -> kv (.tup [.sc (.map none), .int (checkB l).1]) ⟨H.objs, n⟩)
    (h1 : (checkB l).1 = 0 -> R = none -> ∀ n, H.next <= n -> kv (.tup [.sc (.map none), .int 81]) ⟨H.objs, n⟩)
    (h2 : (checkB l).1 = 0 -> ∀ m, R = some m -> ∀ o n, H.next <= o -> o < n -> kv (.tup [.map o, .int 0]) ⟨(o, .map (encP m)) :: H.objs, n⟩) : cP E0 F0 37 [clausesL l] H kv kp := by
  refine cP_of_fn c37 fun hH => ⟨Nat.le_of_ble_eq_true rfl, ?_⟩
  simp (disch := omega) [b37]
  refine (t_Check l hl.ok3).go fun n hn => ?_
  by_cases hc : (checkB l).1 = 0
  case neg =>
    simp (disch := omega) [hc]
    exact keep (h0 hc n hn)
  have hg := good_of hc
  simp (disch := omega) [hc]
  refine t_levels l (by have := hg.len; omega) (fun c hcm => by have := hg.body c hcm; omega) (by have := hg.initLen; omega) fuel R (hR hc) _ (fun hRn n2 hn2 => ?_) (fun m hRm n2 hn2 => ?_)
  · dsimp only at hn2
    simp (disch := omega)
    exact keep (h1 hc hRn n2 (by omega))
  · dsimp only at hn2
    simp (disch := omega)
    exact keep (h2 hc m hRm n n2 hn hn2)
abbrev strataL (A : List Strat) : LV := .sl (A.map stratL) .no
def rstratE (l : List Clause) (S : Option (List (PK × Int))) : Int := if (checkB l).1 ≠ 0 then (checkB l).1 else if S = none then 81 else 0
def rstratL (l : List Clause) (S : Option (List (PK × Int))) : List Strat := if (checkB l).1 ≠ 0 then [] else stratsOf (S.getD [])
theorem chunksS : ∀ A : List Strat, chunks 3 A.length (A.flatMap stratC) = A.map stratL
  | [] => rfl
  | x :: A => by
    have ih := chunksS A
    rw [List.length_cons, List.flatMap_cons]
    show mkEl ((stratC x ++ A.flatMap stratC).take 3) :: chunks 3 A.length ((stratC x ++ A.flatMap stratC).drop 3) = _
    rw [show (stratC x ++ A.flatMap stratC).take 3 = stratC x from List.take_left (l₁ := stratC x), show (stratC x ++ A.flatMap stratC).drop 3 = A.flatMap stratC from List.drop_left (l₁ := stratC x), ih]
    rfl
theorem frzS {H : LHeap} {A : List Strat} {o : Nat} (hl : look o H.objs = some (arrS A)) : frzA H [o] o 0 A.length = strataL A := by
  unfold frzA
  have h1 : (A.flatMap stratC).length = A.length * 3 := flat_len stratC_len A
  simp only [List.contains_cons, BEq.rfl, Bool.true_or, if_true, hl]
  rw [if_pos (by rw [h1]; omega)]
  rw [Nat.zero_mul, List.drop_zero, chunksS]
theorem look_delsO {L : List Nat} {j : Nat} (h : L.contains j = false) : ∀ {l : List (Nat × LObj)}, look j (delsO L l) = look j l
  | [] => rfl
  | (i, x) :: r => by
    simp only [delsO]
    by_cases hi : L.contains i = true
    · rw [if_pos hi, look_delsO h]
      simp only [look]
      rw [if_neg]
      rintro rfl
      rw [hi] at h; cases h
    · rw [if_neg hi]
      simp only [look]
      rw [look_delsO h]
def rlevV : Option (List (PK × Int)) -> LV
  | none => .tup [Nl, .bool false]
  | some m => .tup [strataL (stratsOf m), .bool true]
def predM (l : List Clause) : List (PK × Int) := (predsL l).map fun s => ((s.pred, s.args), s.level)
theorem predM_strats (l : List Clause) : stratsOf (predM l) = predsL l := by
  unfold stratsOf predM
  rw [List.map_map]
  conv => rhs; rw [<- List.map_id (predsL l)]
  rfl
structure PredOk (l : List Clause) : Prop where
  zero : ∀ k, pVal (predM l) k = 0
  has : ∀ c ∈ l, ∀ k ∈ predC c, k ∈ pKeys (predM l)
def refS (l : List Clause) : Option (List (PK × Int)) := refN l ((predM l).length + 2) (predM l)
theorem t_rlevelsP (l : List Clause) (hne : l ≠ []) (hg : GoodL l) (hp : PredOk l) : PureT 43 [clausesL l] (rlevV (refS l)) := by
  intro H kv kp hk hH
  have h1 := t_rlevels (kv := fun v H' => (refS l = none /\ v = .tup [Nl, .bool false] /\ ∃ n, H.next <= n /\ H' = ⟨H.objs, n⟩) \/ ∃ m o n, refS l = some m /\ H.next <= o /\ o < n /\ v = .tup [.asl o 0 m.length, .bool true] /\ H' = ⟨(o, arrS (stratsOf m)) :: H.objs, n⟩) (kp := fun _ _ => False)
    l hne (by have := hg.len; omega) (fun c hc => by have := hg.body c hc; omega) (by have := hg.allLen; omega) (fun c hc x hx => (hg.kind c hc x hx).1) (predM l) (predM_strats l) hp.zero hp.has (refS l) rfl H
    (fun hR n hn => .inl ⟨hR, rfl, n, hn, rfl⟩) (fun m hR o n ho hn => .inr ⟨m, o, n, hR, ho, hn, rfl, rfl⟩) hH
  refine .frz (fun v _ => match v with | .tup [.asl o _ _, _] => [o] | _ => []) h1 (fun v H' hT => ?_) (fun v H' hT => ?_)
  · rcases hT with ⟨u, H2, he, hok, hT⟩ | ⟨u, H2, he, hok, hf⟩
    · cases he
      rcases hT with ⟨hR, rfl, n, hn, rfl⟩ | ⟨m, o, n, hR, ho, hn, rfl, rfl⟩
      · refine ⟨⟨H.objs, n⟩, ⟨Nat.le_refl _, fun i x hx => (look_delsO (L := []) rfl).trans hx⟩, .inl ⟨_, _, rfl, Desc.mono hH hn, ?_⟩⟩
        have := hk n hn
        rw [hR] at this
        exact this
      · refine ⟨⟨H.objs, n⟩, ⟨Nat.le_refl _, fun i x hx => ?_⟩, .inl ⟨_, _, rfl, Desc.mono hH (by dsimp only; omega), ?_⟩⟩
        · have := hH.look hx
          have hne : ¬ i = o := by omega
          have e1 : look i (delsO [o] ((o, arrS (stratsOf m)) :: H.objs)) = look i ((o, arrS (stratsOf m)) :: H.objs) := look_delsO (by simp [hne])
          show look i (delsO [o] ((o, arrS (stratsOf m)) :: H.objs)) = some x
          rw [e1, look_ne hne]
          exact hx
        · have := hk n (by omega)
          rw [hR] at this
          have e : frzA ⟨(o, arrS (stratsOf m)) :: H.objs, n⟩ [o] o 0 (stratsOf m).length = strataL (stratsOf m) := frzS (by simp [look])
          rw [stratsOf_len] at e
          simpa [frzV, frzL, e, rlevV] using this
    · cases he
  · rcases hT with ⟨u, H2, he, hok, hT⟩ | ⟨u, H2, he, hok, hf⟩
    · cases he
    · exact hf.elim
theorem findS_iff {k : PK} : ∀ {A : List Strat} {i : Nat}, 0 <= findSt A k i ↔ ∃ x ∈ A, keyS x = k
  | [], i => by simp [findSt]
  | x :: r, i => by
    have ih := findS_iff (k := k) (A := r) (i := i + 1)
    simp only [findSt]
    by_cases h : matchS x k = true
    · rw [if_pos h]
      exact ⟨fun _ => ⟨x, List.mem_cons_self, matchS_iff.1 h⟩, fun _ => by omega⟩
    · rw [if_neg h, ih]
      constructor
      · rintro ⟨y, h1, h2⟩; exact ⟨y, List.mem_cons_of_mem _ h1, h2⟩
      · rintro ⟨y, h1, h2⟩
        rcases List.mem_cons.1 h1 with rfl | h1
        · exact absurd (matchS_iff.2 h2) h
        · exact ⟨y, h1, h2⟩
theorem insS_nil (k : PK) : insS [] k = [⟨k.1, k.2, 0⟩] := rfl
theorem insS_cons (x : Strat) (r : List Strat) (k : PK) : insS (x :: r) k = if ltPK x k then x :: insS r k else ⟨k.1, k.2, 0⟩ :: x :: r := by
  unfold insS
  simp only [posS]
  split
  · simp
  · simp
theorem mem_insS {x : Strat} {k : PK} : ∀ {A : List Strat}, x ∈ insS A k ↔ x = ⟨k.1, k.2, 0⟩ \/ x ∈ A
  | [] => by rw [insS_nil]; simp
  | y :: r => by
    rw [insS_cons]
    split
    · rw [List.mem_cons, mem_insS, List.mem_cons]
      exact ⟨fun h => h.elim (fun h => .inr (.inl h)) fun h => h.elim .inl fun h => .inr (.inr h), fun h => h.elim (fun h => .inr (.inl h)) fun h => h.elim .inl fun h => .inr (.inr h)⟩
    · exact List.mem_cons
theorem ltPK_iff {x : Strat} {k : PK} : ltPK x k = true ↔ keyLt x ⟨k.1, k.2, 0⟩ := by
  unfold ltPK keyLt
  simp [eqBA_iff]
theorem sorted_insS {k : PK} : ∀ {A : List Strat}, A.Pairwise keyLt -> (∀ x ∈ A, keyS x ≠ k) -> (insS A k).Pairwise keyLt
  | [], _, _ => by rw [insS_nil]; exact List.pairwise_singleton _ _
  | y :: r, h, hk => by
    obtain ⟨h1, h2⟩ := List.pairwise_cons.1 h
    rw [insS_cons]
    by_cases hy : ltPK y k = true
    · rw [if_pos hy]
      refine List.pairwise_cons.2 ⟨fun z hz => ?_, sorted_insS h2 fun x hx => hk x (List.mem_cons_of_mem _ hx)⟩
      rcases mem_insS.1 hz with rfl | hz
      · exact ltPK_iff.1 hy
      · exact h1 z hz
    · rw [if_neg hy]
      have hlt : keyLt ⟨k.1, k.2, 0⟩ y := by
        apply Classical.byContradiction
        intro hn
        have hy' : ¬ keyLt y ⟨k.1, k.2, 0⟩ := fun e => hy (ltPK_iff.2 e)
        obtain ⟨e1, e2⟩ := keyLt_total hy' hn
        refine hk y List.mem_cons_self ?_
        unfold keyS
        rw [e1, e2]
      refine List.pairwise_cons.2 ⟨fun z hz => ?_, h⟩
      rcases List.mem_cons.1 hz with rfl | hz
      · exact hlt
      · exact keyLt_trans hlt (h1 z hz)
structure RowOk (aa : List Atom) (A B : List Strat) : Prop where
  sub : ∀ x ∈ A, x ∈ B
  new : ∀ x ∈ B, x ∈ A \/ (x.level = 0 /\ ∃ a ∈ aa, keyS x = ofA a)
  all : ∀ a ∈ aa, ∃ x ∈ B, keyS x = ofA a
  ord : A.Pairwise keyLt -> B.Pairwise keyLt
theorem fold_ok : ∀ (aa : List Atom) (A : List Strat), RowOk aa A (aa.foldl predF A)
  | [], A => ⟨fun _ h => h, fun _ h => .inl h, fun _ h => (by cases h), id⟩
  | a :: r, A => by
    have ih := fold_ok r (predF A a)
    rw [List.foldl_cons]
    have hp : (∀ x ∈ A, x ∈ predF A a) /\ (∀ x ∈ predF A a, x ∈ A \/ (x.level = 0 /\ keyS x = ofA a)) /\ (∃ x ∈ predF A a, keyS x = ofA a) /\ (A.Pairwise keyLt -> (predF A a).Pairwise keyLt) := by
      unfold predF
      by_cases hf : foundS A a
      · rw [if_pos hf]
        exact ⟨fun _ h => h, fun _ h => .inl h, findS_iff.1 hf, id⟩
      · rw [if_neg hf]
        refine ⟨fun x hx => mem_insS.2 (.inr hx), fun x hx => ?_, ⟨_, mem_insS.2 (.inl rfl), rfl⟩, fun h => sorted_insS h fun x hx e => hf (findS_iff.2 ⟨x, hx, e⟩)⟩
        rcases mem_insS.1 hx with rfl | hx
        · exact .inr ⟨rfl, rfl⟩
        · exact .inl hx
    obtain ⟨p1, p2, ⟨x0, p3, p4⟩, p5⟩ := hp
    refine ⟨fun x hx => ih.sub x (p1 x hx), fun x hx => ?_, fun b hb => ?_, fun h => ih.ord (p5 h)⟩
    · rcases ih.new x hx with h | ⟨h1, b, hb, h2⟩
      · rcases p2 x h with h | ⟨h1, h2⟩
        · exact .inl h
        · exact .inr ⟨h1, a, List.mem_cons_self, h2⟩
      · exact .inr ⟨h1, b, List.mem_cons_of_mem _ hb, h2⟩
    · rcases List.mem_cons.1 hb with rfl | hb
      · exact ⟨x0, ih.sub x0 p3, p4⟩
      · exact ih.all b hb
theorem preds_ok (l : List Clause) : RowOk (allA l) [] (predsL l) := fold_ok (allA l) []
theorem pKeys_predM (l : List Clause) : pKeys (predM l) = (predsL l).map keyS := by
  unfold pKeys predM
  rw [List.map_map]
  rfl
theorem pVal_zero : ∀ {m : List (PK × Int)}, (∀ e ∈ m, e.2 = 0) -> ∀ k, pVal m k = 0
  | [], _, _ => rfl
  | (j, u) :: r, h, k => by
    have ih := pVal_zero (m := r) (fun e he => h e (List.mem_cons_of_mem _ he)) k
    unfold pVal at ih ⊢
    simp only [pGet]
    split
    · exact h _ List.mem_cons_self
    · exact ih
theorem mem_allA {l : List Clause} (hk : ∀ c ∈ l, ∀ x ∈ c.body, 1 <= x.kind) {k : PK} : (∃ a ∈ allA l, k = ofA a) ↔ ∃ c ∈ l, k ∈ predC c := by
  have hc : ∀ c ∈ l, (∃ a ∈ clAs c, k = ofA a) ↔ k ∈ predC c := by
    intro c hcm
    unfold clAs predC
    constructor
    · rintro ⟨a, ha, rfl⟩
      rcases List.mem_cons.1 ha with rfl | ha
      · exact List.mem_cons_self
      · obtain ⟨x, hx, ha⟩ := List.mem_flatMap.1 ha
        unfold litAs at ha
        split at ha
        · rename_i h2
          rw [List.mem_singleton.1 ha]
          have h1 := hk c hcm x hx
          have h12 : x.kind = 1 \/ x.kind = 2 := by omega
          exact List.mem_cons_of_mem _ (List.mem_map.2 ⟨x, List.mem_filter.2 ⟨hx, by simpa using h12⟩, rfl⟩)
        · cases ha
    · intro h
      rcases List.mem_cons.1 h with rfl | h
      · exact ⟨c.head, List.mem_cons_self, rfl⟩
      · obtain ⟨x, hx, rfl⟩ := List.mem_map.1 h
        obtain ⟨h1, h2⟩ := List.mem_filter.1 hx
        refine ⟨x.atom, List.mem_cons_of_mem _ (List.mem_flatMap.2 ⟨x, h1, ?_⟩), rfl⟩
        have : x.kind = 1 \/ x.kind = 2 := by simpa using h2
        unfold litAs
        rw [if_pos (by omega)]
        exact List.mem_singleton.2 rfl
  constructor
  · rintro ⟨a, ha, e⟩
    obtain ⟨c, hcm, ha⟩ := List.mem_flatMap.1 ha
    exact ⟨c, hcm, (hc c hcm).1 ⟨a, ha, e⟩⟩
  · rintro ⟨c, hcm, h⟩
    obtain ⟨a, ha, e⟩ := (hc c hcm).2 h
    exact ⟨a, List.mem_flatMap.2 ⟨c, hcm, ha⟩, e⟩
theorem mem_predM {l : List Clause} (hk : ∀ c ∈ l, ∀ x ∈ c.body, 1 <= x.kind) {k : PK} : k ∈ pKeys (predM l) ↔ ∃ c ∈ l, k ∈ predC c := by
  rw [<- mem_allA hk, pKeys_predM, List.mem_map]
  have h := preds_ok l
  constructor
  · rintro ⟨x, hx, rfl⟩
    rcases h.new x hx with h | ⟨_, a, ha, e⟩
    · cases h
    · exact ⟨a, ha, e⟩
  · rintro ⟨a, ha, rfl⟩
    exact h.all a ha
theorem pred_ok {l : List Clause} (hk : ∀ c ∈ l, ∀ x ∈ c.body, 1 <= x.kind) : PredOk l where
  zero := pVal_zero fun e he => by
    unfold predM at he
    obtain ⟨s, hs, rfl⟩ := List.mem_map.1 he
    rcases (preds_ok l).new s hs with h | ⟨h, _⟩
    · cases h
    · exact h
  has c hc k hkc := (mem_predM hk).2 ⟨c, hc, hkc⟩
theorem keyLt_key {x y : Strat} (h : keyLt x y) : keyS x ≠ keyS y := by
  intro e
  have e1 : x.pred = y.pred := congrArg Prod.fst e
  have e2 : x.args = y.args := congrArg Prod.snd e
  rcases h with h | ⟨_, h⟩
  · rw [e1, lessB_eq, bl_irr] at h; cases h
  · omega
theorem nodup_predM (l : List Clause) : (pKeys (predM l)).Nodup := by
  rw [pKeys_predM]
  have h : (predsL l).Pairwise keyLt := (preds_ok l).ord .nil
  exact List.pairwise_map.2 (h.imp keyLt_key)
theorem t_rlevels0 : PureT 43 [clausesL []] (.tup [Nl, .bool true]) := by
  refine PureT.of c43 fun H hH => ⟨Nat.le_of_ble_eq_true rfl, ?_⟩
  simp (disch := omega) [b43]
  have hp : PureT 72 [clausesL []] Nl := by
    refine PureT.of c72 fun H hH => ⟨Nat.le_of_ble_eq_true rfl, ?_⟩
    simp (disch := omega) [b72]
    refine lP_unroll ?_
    simp (disch := omega)
    refine lP_unroll ?_
    simp (disch := omega)
    exact doneK hH (by first | rfl | simp [])
  refine hp.go fun n hn => ?_
  simp (disch := omega) [wrap_id]
  refine lP_unroll ?_
  simp (disch := omega) [wrap_id]
  refine lP_unroll ?_
  simp (disch := omega)
  exact doneK hH (by first | rfl | simp [])
theorem t_rstratified (l : List Clause) (hl : SmallL l) : ∃ own, PureT 14 [clausesL l] (.agg [.sl ((rstratL l (refS l)).map stratL) own, .int (rstratE l (refS l))]) := by
  have hcs : (rcheckB l).1 = (checkB l).1 := by rw [check_same]
  by_cases hc : (checkB l).1 = 0
  case neg =>
    refine ⟨.full, PureT.of c14 fun H hH => ⟨Nat.le_of_ble_eq_true rfl, ?_⟩⟩
    simp (disch := omega) [b14]
    refine (t_rCheck l hl.ok3).go fun n hn => ?_
    rw [hcs]
    simp (disch := omega) [hc]
    exact doneK hH (by simp [rstratL, rstratE, hc])
  have hg := good_of hc
  cases hl0 : l with
  | nil =>
    refine ⟨.full, PureT.of c14 fun H hH => ⟨Nat.le_of_ble_eq_true rfl, ?_⟩⟩
    simp (disch := omega) [b14]
    rw [hl0] at hl hcs hc
    refine (t_rCheck [] hl.ok3).go fun n hn => ?_
    rw [hcs]
    simp (disch := omega) [hc]
    refine t_rlevels0.go fun n hn => ?_
    simp (disch := omega)
    have e : refS [] = some [] := rfl
    exact doneK hH (by simp [rstratL, rstratE, hc, e, stratsOf])
  | cons c r =>
    rw [<- hl0]
    have hne : l ≠ [] := by rw [hl0]; simp
    have hp := t_rlevelsP l hne hg (pred_ok fun c hc x hx => (hg.kind c hc x hx).1)
    cases hS : refS l with
    | none =>
      rw [hS] at hp
      refine ⟨.full, PureT.of c14 fun H hH => ⟨Nat.le_of_ble_eq_true rfl, ?_⟩⟩
      simp (disch := omega) [b14]
      refine (t_rCheck l hl.ok3).go fun n hn => ?_
      rw [hcs]
      simp (disch := omega) [hc]
      refine hp.go fun n hn => ?_
      simp (disch := omega) [rlevV]
      exact doneK hH (by simp [rstratL, rstratE, hc, stratsOf])
    | some m =>
      rw [hS] at hp
      refine ⟨.no, PureT.of c14 fun H hH => ⟨Nat.le_of_ble_eq_true rfl, ?_⟩⟩
      simp (disch := omega) [b14]
      refine (t_rCheck l hl.ok3).go fun n hn => ?_
      rw [hcs]
      simp (disch := omega) [hc]
      refine hp.go fun n hn => ?_
      simp (disch := omega) [rlevV]
      exact doneK hH (by simp [rstratL, rstratE, hc])
abbrev encW (W : List PK) : List (LV × LV) := W.map fun k => (keyL k, B true)
def hasP (k : PK) (W : List PK) : Bool := W.any (eqPK k)
def addP (k : PK) (W : List PK) : List PK := if hasP k W then W else W ++ [k]
theorem hasP_iff {k : PK} {W : List PK} : hasP k W = true ↔ k ∈ W := any_mem
theorem setL_encW (k : PK) : ∀ W : List PK, setL (.st [1, 0]) (keyL k) (B true) (encW W) = some (encW (addP k W))
  | [] => rfl
  | j :: r => by
    have ih := setL_encW k r
    show (match eqK (.st [1, 0]) (keyL k) (keyL j) with
      | some true => some ((keyL j, B true) :: encW r)
      | some false => (setL (.st [1, 0]) (keyL k) (B true) (encW r)).map ((keyL j, B true) :: ·)
      | none => none) = _
    rw [eqK_PK]
    unfold addP hasP at *
    cases h : eqPK k j
    · simp only [ih, List.any_cons, h, Bool.false_or]
      split <;> rfl
    · simp only [List.any_cons, h, Bool.true_or, if_true]; rfl
theorem findL_encW (k : PK) : ∀ W : List PK, findL (.st [1, 0]) (keyL k) (encW W) = some (if hasP k W then some (B true) else none)
  | [] => rfl
  | j :: r => by
    have ih := findL_encW k r
    show (match eqK (.st [1, 0]) (keyL k) (keyL j) with
      | some true => some (some (B true))
      | some false => findL (.st [1, 0]) (keyL k) (encW r)
      | none => none) = _
    rw [eqK_PK]
    unfold hasP at *
    cases h : eqPK k j
    · simp only [ih, List.any_cons, h, Bool.false_or]
    · simp only [List.any_cons, h, Bool.true_or, if_true]
theorem muW {o : Nat} {W : List PK} {ob : List (Nat × LObj)} {nx : Nat} (hl : look o ob = some (.map (encW W))) (k : PK) :
    muL ⟨ob, nx⟩ (.st [1, 0]) (.map o) (keyL k) (B true) = some ⟨putO o (.map (encW (addP k W))) ob, nx⟩ := by
  have hs : eqK (.st [1, 0]) (keyL k) (keyL k) = some true := by rw [eqK_PK, eqPK_iff.2 rfl]
  have h2 := setL_encW k W
  simp only [muL, hl]
  rw [hs, h2]
  rfl
theorem lkW {o : Nat} {W : List PK} {ob : List (Nat × LObj)} {nx : Nat} (hl : look o ob = some (.map (encW W))) (k : PK) :
    lkL ⟨ob, nx⟩ (.st [1, 0]) false (B false) (.map o) (keyL k) = some (B (hasP k W)) := by
  have hs : eqK (.st [1, 0]) (keyL k) (keyL k) = some true := by rw [eqK_PK, eqPK_iff.2 rfl]
  have h2 := findL_encW k W
  unfold lkL
  rw [hs]
  simp only [Option.isSome_some, if_true, hl]
  rw [h2]
  cases hasP k W <;> rfl
def wLit (W : List PK) (x : Lit) : List PK := if decide (x.kind = 1) || decide (x.kind = 2) then addP (ofA x.atom) W else W
def wStepC (W : List PK) (c : Clause) : List PK := if hasP (ofA c.head) W then c.body.foldl wLit W else W
def wRound (l : List Clause) (W : List PK) : List PK := l.foldl wStepC W
def relW (l : List Clause) : Nat -> Nat -> List PK -> Option (List PK)
  | 0, _, _ => none
  | f + 1, n, W => if n = W.length then some W else relW l f W.length (wRound l W)
def relI (W : List PK) : List Clause -> Nat -> List Int
  | [], _ => []
  | c :: r, i => if hasP (ofA c.head) W then (i : Int) :: relI W r (i + 1) else relI W r (i + 1)
structure NNG where
  f : Nat
  c : Nat
  n : Nat
  w : List PK
structure NNF where
  i : Nat
  n : Nat
  w : List PK
structure NNI2 where
  i : Nat
  n : Nat
  ns : List Int
  own : Own
  ob : List (Nat × LObj)
abbrev intsL (ns : List Int) : List LV := ns.map LV.int
theorem ints_all (ns : List Int) : (intsL ns).all (fun e => e.cells.length == 1) = true := by
  rw [List.all_map, List.all_eq_true]
  intro x _
  rfl
theorem relI_len (W : List PK) : ∀ (l : List Clause) (i : Nat), (relI W l i).length <= l.length
  | [], _ => Nat.le_refl _
  | c :: r, i => by
    have := relI_len W r (i + 1)
    simp only [relI]
    split <;> simp only [List.length_cons] <;> omega
theorem t_relevant (l : List Clause) (hl : SmallL l) (pred : ByteArray) (args : Int) (fuel : Nat) (R : Option (List (PK × Int))) (hR : (checkB l).1 = 0 -> levN l fuel (l.foldl initCl []) = some R) (f2 : Nat) (W : List PK) (hW : relW l f2 0 [(pred, args)] = some W) (H : LHeap) {kv kp : HP}
    (h0 : (checkB l).1 ≠ 0 -> ∀ n, H.next <= n -> kv (.tup [Nl, .int (checkB l).1]) ⟨H.objs, n⟩) (h1 : (checkB l).1 = 0 -> R = none -> ∀ n, H.next <= n -> kv (.tup [Nl, .int 81]) ⟨H.objs, n⟩)
    (h2 : (checkB l).1 = 0 -> R ≠ none -> ∀ own n, H.next <= n -> kv (.tup [.sl (intsL (relI W l 0)) own, .int 0]) ⟨H.objs, n⟩) : cP E0 F0 15 [clausesL l, .str pred, .int args] H kv kp := by
  refine cP_of_fn c15 fun hH => ⟨Nat.le_of_ble_eq_true rfl, ?_⟩
  simp (disch := omega) [b15]
  refine t_checked l hl fuel R hR H (fun hc n hn => ?_) (fun hc hRn n hn => ?_) (fun hc m hRm o0 n0 ho0 hn0 => ?_)
  · simp (disch := omega) [hc]
    exact keep (h0 hc n hn)
  · simp (disch := omega)
    exact keep (h1 hc hRn n hn)
  have hg := good_of hc
  have hRne : R ≠ none := by rw [hRm]; simp
  simp (disch := omega) [muL, setL, eqK_PK, eqPK_iff, eqL]
  have hnn : H.next <= n0 := by omega
  have hgl := hg.len
  have hOk : ∀ (W' : List PK) (n : Nat), n0 < n -> LHeap.Ok ⟨(n0, .map (encW W')) :: H.objs, n⟩ := fun W' n hn => ⟨hn, Desc.mono hH hnn⟩
  have hbase : ∀ (x : LObj) (n : Nat), n0 < n -> HWk ⟨(n0, x) :: H.objs, n⟩ ⟨H.objs, n⟩ /\ (LHeap.Ok ⟨(n0, x) :: H.objs, n⟩ -> LHeap.Ok ⟨H.objs, n⟩) := fun x n hn =>
    ⟨⟨Nat.le_refl _, fun i x hx => by
      have := hH.look hx
      simp only [look]
      rw [if_neg (by omega)]
      exact hx⟩, fun _ => Desc.mono hH (by dsimp only; omega)⟩
  have hlo : ∀ W' : List PK, look n0 ((n0, LObj.map (encW W')) :: H.objs) = some (.map (encW W')) := fun W' => by simp [look]
  refine lP_enter (σ := NNG) (fun q => (FT.node (clausesL l) (FT.node .bot (FT.node .bot (FT.node (.int 0) .nil .nil) (FT.node (.int q.c) .nil .nil)) .nil) (FT.node .bot .nil (FT.node (Nl) (FT.node (.map n0) .nil .nil) .nil)))) (fun q => ⟨(n0, .map (encW q.w)) :: H.objs, q.n⟩) (fun q => q.f) (fun q => n0 < q.n /\ relW l q.f q.c q.w = some W) ⟨f2, 0, n0 + 1, [(pred, args)]⟩ ⟨Nat.lt_succ_self _, hW⟩ (by simp [FT.Le, Wk]) ?_ ?_
  · refine ⟨⟨Nat.le_refl _, fun i x hx => ?_⟩, fun _ => hOk _ _ (Nat.lt_succ_self _)⟩
    simp only [look] at hx ⊢
    split at hx
    · rename_i hi; rw [if_pos hi]; exact hx
    · rename_i hi
      have := hH.look hx
      rw [if_neg hi, if_neg (by omega)]
      exact hx
  rintro ⟨f, cnt, n, W1⟩ ⟨hn, he⟩ hok
  dsimp only at hn he hok
  cases f with
  | zero => cases he
  | succ f =>
  simp only [relW] at he
  by_cases hcnt : cnt = W1.length
  · rw [if_pos hcnt] at he
    have hWe : W1 = W := Option.some.inj he
    subst hWe
    have hcnt' : (cnt : Int) = (W1.length : Int) := by omega
    simp (disch := omega) [hcnt]
    obtain ⟨L, hL⟩ : ∃ L, relI W1 l 0 = L := ⟨_, rfl⟩
    rw [hL] at h2
    have hLl : L.length <= 40 := by rw [<- hL]; have := relI_len W1 l 0; have := hg.len; omega
    refine lP_enter (σ := NNI2) (fun q => (FT.node .bot (FT.node .bot (FT.node .bot (FT.node (.int 0) .nil (FT.node .bot (FT.node .bot (FT.node (clausesL l) .nil .nil) .nil) .nil)) .nil) (FT.node .bot (FT.node .bot .nil (FT.node .bot (FT.node .bot (FT.node (.int q.i) .nil .nil) .nil) .nil)) .nil)) (FT.node .bot (FT.node .bot (FT.node .bot (FT.node (.sl (intsL q.ns) q.own) .nil .nil) (FT.node .bot (FT.node .bot (FT.node (.int l.length) .nil .nil) .nil) .nil)) .nil) (FT.node (Nl) (FT.node (.map n0) .nil .nil) .nil)))) (fun q => ⟨q.ob, q.n⟩) (fun q => l.length - q.i)
      (fun q => RowT ⟨(n0, .map (encW W1)) :: H.objs, n0 + 1⟩ 1 q.ns.length q.own q.ob q.n /\ n0 < q.n /\ q.i <= l.length /\ q.ns ++ relI W1 (l.drop q.i) q.i = L) ⟨0, n, [], .full, (n0, .map (encW W1)) :: H.objs⟩ ⟨.inl ⟨rfl, rfl, hn⟩, hn, Nat.zero_le _, by simpa using hL⟩ (by simp [FT.Le, Wk]) ⟨HWk.refl _, fun h => h⟩ ?_
    rintro ⟨i, n2, ns, own, ob⟩ ⟨hr, hn2, hi, he2⟩ hok2
    dsimp only at hr hn2 hi he2 hok2
    have hnl : ns.length <= 40 := by
      have := congrArg List.length he2
      rw [List.length_append] at this
      omega
    have hlk : look n0 ob = some (.map (encW W1)) := by
      rcases hr with ⟨_, rfl, _⟩ | ⟨t, _, g1, g2, rfl⟩
      · exact hlo W1
      · dsimp only at g1
        rw [look_ne (by omega)]; exact hlo W1
    have hob : ob = (n0, .map (encW W1)) :: H.objs \/ ∃ t, n0 < t /\ ob = (t, .tok ns.length 1) :: (n0, .map (encW W1)) :: H.objs := by
      rcases hr with ⟨_, rfl, _⟩ | ⟨t, _, g1, g2, rfl⟩
      · exact .inl rfl
      · exact .inr ⟨t, g1, rfl⟩
    by_cases hlt : i < l.length
    case neg =>
      rw [List.drop_eq_nil_of_le (by omega)] at he2
      simp only [relI, List.append_nil] at he2
      subst he2
      simp (disch := omega) [hlt]
      refine ⟨⟨H.objs, n2⟩, ⟨Nat.le_refl _, fun i x hx => ?_⟩, fun _ => Desc.mono hH (by dsimp only; omega), h2 hc hRne own n2 (by omega)⟩
      have := hH.look hx
      rcases hob with rfl | ⟨t, g1, rfl⟩
      · simp only [look]; rw [if_neg (by omega)]; exact hx
      · simp only [look]; rw [if_neg (by omega), if_neg (by omega)]; exact hx
    rw [List.drop_eq_getElem_cons hlt] at he2
    simp only [relI] at he2
    have hback : ∀ x : LObj, HWk ⟨(n2, x) :: ob, n2 + 1⟩ ⟨ob, n2 + 1⟩ /\ (LHeap.Ok ⟨(n2, x) :: ob, n2 + 1⟩ -> LHeap.Ok ⟨ob, n2 + 1⟩) := fun x => back (H := ⟨ob, n2⟩) hok2 (HExt.cons hok2 (Nat.le_refl _) (HExt.refl (Nat.le_refl _)) (Nat.le_succ _))
    simp (disch := omega) [hlt]
    refine (t_of l[i].head).x (bel_of _) ?_
    simp (disch := omega)
    rw [show lkL ⟨(n2, .cells [.str l[i].head.pred, argsL l[i].head.args, bodyL l[i].body]) :: ob, n2 + 1⟩ (.st [1, 0]) false (B false) (.map n0) (.agg [.str l[i].head.pred, .int l[i].head.args.length]) = _ from lkW (by rw [look_ne (by omega)]; exact hlk) (ofA l[i].head)]
    cases hh : hasP (ofA l[i].head) W1
    · rw [hh, if_neg (by simp)] at he2
      simp (disch := omega) [hh, wrap_nat (show i < 2 ^ 62 by omega)]
      obtain ⟨g1, g2⟩ := hback (.cells [.str l[i].head.pred, argsL l[i].head.args, bodyL l[i].body])
      refine ⟨⟨i + 1, n2 + 1, ns, own, ob⟩, by dsimp only; omega, ⟨?_, by dsimp only; omega, by dsimp only; omega, he2⟩, by simp [FT.Le, Wk], g1, g2⟩
      rcases hr with ⟨h1, h2, h3⟩ | ⟨t, h1, h2, h3, h4⟩
      · exact .inl ⟨h1, h2, by dsimp only at h3 ⊢; omega⟩
      · exact .inr ⟨t, h1, h2, by dsimp only; omega, h4⟩
    rw [hh, if_pos rfl] at he2
    have he3 : ns ++ [(i : Int)] ++ relI W1 (l.drop (i + 1)) (i + 1) = L := by rw [List.append_assoc]; exact he2
    simp (disch := omega) [hh]
    refine effP_ap ?_
    have hcan : ns.length + 1 <= 2 ^ 30 := by omega
    have hlen1 : (ns ++ [(i : Int)]).length = ns.length + 1 := by simp
    rcases hr with ⟨rfl, rfl, h3⟩ | ⟨t, rfl, g1, g2, rfl⟩
    · dsimp only at h3
      simp (disch := omega) [apL, canApp, ints_all, hcan, wrap_nat (show i < 2 ^ 62 by omega)]
      refine ⟨⟨i + 1, n2 + 1 + 1, ns ++ [(i : Int)], .tok (n2 + 1), (n2 + 1, .tok (ns.length + 1) 1) :: (n0, .map (encW W1)) :: H.objs⟩, by dsimp only; omega, ⟨.inr ⟨n2 + 1, rfl, by dsimp only; omega, Nat.lt_succ_self _, by dsimp only; rw [hlen1]⟩, by dsimp only; omega, by dsimp only; omega, he3⟩, by simp [FT.Le, Wk], ?_, fun _ => ⟨Nat.lt_succ_self _, ⟨by omega, Desc.mono hH hnn⟩⟩⟩
      exact hwk_mid (show Desc ((n0, LObj.map (encW W1)) :: H.objs) n2 from ⟨hn2, Desc.mono hH hnn⟩) fun _ _ h => h
    · dsimp only at g1
      simp (disch := omega) [apL, canApp, ints_all, hcan, wrap_nat (show i < 2 ^ 62 by omega)]
      refine ⟨⟨i + 1, n2 + 1, ns ++ [(i : Int)], .tok t, (t, .tok (ns.length + 1) 1) :: (n0, .map (encW W1)) :: H.objs⟩, by dsimp only; omega, ⟨.inr ⟨t, rfl, g1, by dsimp only; omega, by dsimp only; rw [hlen1]⟩, by dsimp only; omega, by dsimp only; omega, he3⟩, by simp [FT.Le, Wk], ?_⟩
      have hOk3 : LHeap.Ok ⟨(t, .tok (ns.length + 1) 1) :: (n0, .map (encW W1)) :: H.objs, n2⟩ := ⟨g2, ⟨by omega, Desc.mono hH hnn⟩⟩
      exact back hOk3 (HExt.cons hOk3 (Nat.le_refl _) (HExt.refl (Nat.le_refl _)) (Nat.le_succ _))
  rw [if_neg hcnt] at he
  obtain ⟨Q, hQ⟩ : ∃ Q, wRound l W1 = Q := ⟨_, rfl⟩
  rw [hQ] at he
  have hcnt' : ¬ (cnt : Int) = (W1.length : Int) := by omega
  simp (disch := omega) [hcnt']
  refine lP_enter (σ := NNF) (fun q => (FT.node (clausesL l) (FT.node .bot (FT.node .bot (FT.node (.int 0) .nil (FT.node .bot (FT.node (.int l.length) .nil .nil) .nil)) (FT.node (.int W1.length) .nil .nil)) .nil) (FT.node .bot (FT.node .bot (FT.node .bot .nil (FT.node .bot (FT.node (.int q.i) .nil .nil) .nil)) .nil) (FT.node (Nl) (FT.node (.map n0) .nil .nil) (FT.node .bot (FT.node .bot (FT.node (clausesL l) .nil .nil) .nil) .nil))))) (fun q => ⟨(n0, .map (encW q.w)) :: H.objs, q.n⟩) (fun q => l.length - q.i)
    (fun q => n0 < q.n /\ q.i <= l.length /\ (l.drop q.i).foldl wStepC q.w = Q) ⟨0, n, W1⟩ ⟨hn, Nat.zero_le _, hQ⟩ (by simp [FT.Le, Wk]) ⟨HWk.refl _, fun h => h⟩ ?_
  rintro ⟨i, n2, W2⟩ ⟨hn2, hi, he2⟩ hok2
  dsimp only at hn2 hi he2 hok2
  by_cases hlt : i < l.length
  case neg =>
    rw [List.drop_eq_nil_of_le (by omega)] at he2
    simp only [List.foldl_nil] at he2
    subst he2
    simp (disch := omega) [hlt]
    exact ⟨⟨f, W1.length, n2, W2⟩, by simp, ⟨hn2, he⟩, by simp [FT.Le, Wk], HWk.refl _, fun h => h⟩
  rw [List.drop_eq_getElem_cons hlt, List.foldl_cons] at he2
  have hbk : ∀ (x : LObj) (W' : List PK) (n' : Nat), n2 + 1 <= n' -> HWk ⟨(n2, x) :: (n0, .map (encW W')) :: H.objs, n'⟩ ⟨(n0, .map (encW W')) :: H.objs, n'⟩ /\ (LHeap.Ok ⟨(n2, x) :: (n0, .map (encW W')) :: H.objs, n'⟩ -> LHeap.Ok ⟨(n0, .map (encW W')) :: H.objs, n'⟩) := fun x W' n' hn' =>
    back (hOk W' n2 hn2) (HExt.cons (hOk W' n2 hn2) (Nat.le_refl _) (HExt.refl (Nat.le_refl _)) (by dsimp only; omega))
  simp (disch := omega) [hlt]
  refine (t_of l[i].head).x (bel_of _) ?_
  simp (disch := omega)
  rw [show lkL ⟨(n2, .cells [.str l[i].head.pred, argsL l[i].head.args, bodyL l[i].body]) :: (n0, .map (encW W2)) :: H.objs, n2 + 1⟩ (.st [1, 0]) false (B false) (.map n0) (.agg [.str l[i].head.pred, .int l[i].head.args.length]) = _ from lkW (by rw [look_ne (by omega)]; exact hlo W2) (ofA l[i].head)]
  cases hh : hasP (ofA l[i].head) W2
  · have e : wStepC W2 l[i] = W2 := by unfold wStepC; rw [hh]; rfl
    rw [e] at he2
    simp (disch := omega) [hh, wrap_nat (show i < 2 ^ 62 by omega)]
    obtain ⟨g1, g2⟩ := hbk (.cells [.str l[i].head.pred, argsL l[i].head.args, bodyL l[i].body]) W2 (n2 + 1) (Nat.le_refl _)
    exact ⟨⟨i + 1, n2 + 1, W2⟩, by dsimp only; omega, ⟨by dsimp only; omega, by dsimp only; omega, he2⟩, by simp [FT.Le, Wk], g1, g2⟩
  have e : wStepC W2 l[i] = l[i].body.foldl wLit W2 := by unfold wStepC; rw [hh]; rfl
  rw [e] at he2
  obtain ⟨Q2, hQ2⟩ : ∃ Q2, l[i].body.foldl wLit W2 = Q2 := ⟨_, rfl⟩
  rw [hQ2] at he2
  have hbl := hg.body _ (mem_at hlt)
  simp (disch := omega) [hh]
  refine lP_enter (σ := NNF) (fun q => (FT.node (clausesL l) (FT.node .bot (FT.node .bot (FT.node (.int 0) .nil (FT.node .bot (FT.node (.int l.length) .nil .nil) .nil)) (FT.node (.int W1.length) (FT.node .bot .nil (FT.node (bodyL l[i].body) .nil .nil)) .nil)) (FT.node .bot .nil (FT.node .bot (FT.node .bot .nil (FT.node (.int q.i) .nil .nil)) .nil))) (FT.node .bot (FT.node .bot (FT.node .bot .nil (FT.node .bot (FT.node (.int i) .nil .nil) .nil)) (FT.node .bot (FT.node .bot .nil (FT.node (.int l[i].body.length) .nil .nil)) .nil)) (FT.node (Nl) (FT.node (.map n0) .nil .nil) (FT.node .bot (FT.node .bot (FT.node (clausesL l) .nil .nil) .nil) .nil))))) (fun q => ⟨(n0, .map (encW q.w)) :: H.objs, q.n⟩) (fun q => l[i].body.length - q.i)
    (fun q => n2 < q.n /\ q.i <= l[i].body.length /\ (l[i].body.drop q.i).foldl wLit q.w = Q2) ⟨0, n2 + 1, W2⟩ ⟨Nat.lt_succ_self _, Nat.zero_le _, hQ2⟩ (by simp [FT.Le, Wk]) (hbk _ W2 (n2 + 1) (Nat.le_refl _)) ?_
  rintro ⟨j, n3, W3⟩ ⟨hn3, hj, he3⟩ hok3
  dsimp only at hn3 hj he3 hok3
  by_cases hlt2 : j < l[i].body.length
  case neg =>
    rw [List.drop_eq_nil_of_le (by omega)] at he3
    simp only [List.foldl_nil] at he3
    subst he3
    simp (disch := omega) [hlt2, wrap_nat (show i < 2 ^ 62 by omega)]
    exact ⟨⟨i + 1, n3, W3⟩, by dsimp only; omega, ⟨by dsimp only; omega, by dsimp only; omega, he2⟩, by simp [FT.Le, Wk], HWk.refl _, fun h => h⟩
  rw [List.drop_eq_getElem_cons hlt2, List.foldl_cons] at he3
  have hbk3 : ∀ (x : LObj) (W' : List PK) (n' : Nat), n3 + 1 <= n' -> HWk ⟨(n3, x) :: (n0, .map (encW W')) :: H.objs, n'⟩ ⟨(n0, .map (encW W')) :: H.objs, n'⟩ /\ (LHeap.Ok ⟨(n3, x) :: (n0, .map (encW W')) :: H.objs, n'⟩ -> LHeap.Ok ⟨(n0, .map (encW W')) :: H.objs, n'⟩) := fun x W' n' hn' =>
    back (hOk W' n3 (by omega)) (HExt.cons (hOk W' n3 (by omega)) (Nat.le_refl _) (HExt.refl (Nat.le_refl _)) (by dsimp only; omega))
  by_cases h12 : l[i].body[j].kind = 1 \/ l[i].body[j].kind = 2
  · have e3 : wLit W3 l[i].body[j] = addP (ofA l[i].body[j].atom) W3 := by
      unfold wLit
      rw [if_pos (by simpa using h12)]
    rw [e3] at he3
    rcases h12 with hk | hk
    all_goals
      simp (disch := omega) [hlt2, hk]
      refine (t_of l[i].body[j].atom).x (bel_of _) ?_
      simp (disch := omega)
      have hmu : ∀ x : LObj, muL ⟨(n3, x) :: (n0, .map (encW W3)) :: H.objs, n3 + 1⟩ (.st [1, 0]) (.map n0) (.agg [.str l[i].body[j].atom.pred, .int l[i].body[j].atom.args.length]) (B true) = some ⟨putO n0 (.map (encW (addP (ofA l[i].body[j].atom) W3))) ((n3, x) :: (n0, .map (encW W3)) :: H.objs), n3 + 1⟩ :=
        fun x => muW (by rw [look_ne (by omega)]; exact hlo W3) (ofA l[i].body[j].atom)
      rw [hmu]
      have hne : ¬ n0 = n3 := by omega
      simp (disch := omega) [putO, hne, wrap_nat (show j < 2 ^ 62 by omega)]
      exact ⟨⟨j + 1, n3 + 1, addP (ofA l[i].body[j].atom) W3⟩, by dsimp only; omega, ⟨by dsimp only; omega, by dsimp only; omega, he3⟩, by simp [FT.Le, Wk], hbk3 _ _ (n3 + 1) (Nat.le_refl _)⟩
  · have h1' : ¬ l[i].body[j].kind = 1 := fun e => h12 (.inl e)
    have h2' : ¬ l[i].body[j].kind = 2 := fun e => h12 (.inr e)
    have e3 : wLit W3 l[i].body[j] = W3 := by
      unfold wLit
      rw [if_neg (by simpa using ⟨h1', h2'⟩)]
    rw [e3] at he3
    simp (disch := omega) [hlt2, h1', h2', wrap_nat (show j < 2 ^ 62 by omega)]
    exact ⟨⟨j + 1, n3 + 1, W3⟩, by dsimp only; omega, ⟨by dsimp only; omega, by dsimp only; omega, he3⟩, by simp [FT.Le, Wk], hbk3 _ _ (n3 + 1) (Nat.le_refl _)⟩
theorem t_sameInts (a : List Int) (o1 o2 : Own) (ha : a.length < 2 ^ 60) : PureT 18 [.sl (intsL a) o1, .sl (intsL a) o2] (.bool true) := by
  refine PureT.of c18 fun H hH => ⟨Nat.le_of_ble_eq_true rfl, ?_⟩
  simp (disch := omega) [b18]
  refine lP_enter (σ := NN) (fun q => (FT.node (.sl (intsL a) o1) (FT.node (.sl (intsL a) o2) .nil (FT.node (.int q.i) .nil .nil)) .nil)) (fun q => ⟨H.objs, q.n⟩) (fun q => a.length - q.i)
    (fun q => H.next <= q.n /\ q.i <= a.length) ⟨0, H.next⟩ ⟨Nat.le_refl _, Nat.zero_le _⟩ (by simp [FT.Le, Wk]) ⟨HWk.refl _, fun h => h⟩ ?_
  rintro ⟨i, n⟩ ⟨hn, hi⟩ hok
  dsimp only at hn hi
  by_cases hlt : i < a.length
  · simp (disch := omega) [hlt, wrap_nat (show i < 2 ^ 62 by omega)]
    exact ⟨⟨i + 1, n⟩, by dsimp only; omega, ⟨by dsimp only; omega, by dsimp only; omega⟩, by simp [FT.Le, Wk], HWk.refl _, fun h => h⟩
  · simp (disch := omega) [hlt]
    exact doneK hH (by first | rfl | simp [])
theorem eqBA_rfl (a : ByteArray) : eqBA a a = true := eqBA_iff.2 rfl
theorem t_sameStrata (A : List Strat) (o1 o2 : Own) (ha : A.length < 2 ^ 60) : PureT 17 [.sl (A.map stratL) o1, .sl (A.map stratL) o2] (.bool true) := by
  refine PureT.of c17 fun H hH => ⟨Nat.le_of_ble_eq_true rfl, ?_⟩
  simp (disch := omega) [b17]
  refine lP_enter (σ := NN) (fun q => (FT.node (.sl (A.map stratL) o1) (FT.node (.sl (A.map stratL) o2) .nil (FT.node (.int q.i) .nil .nil)) .nil)) (fun q => ⟨H.objs, q.n⟩) (fun q => A.length - q.i)
    (fun q => H.next <= q.n /\ q.i <= A.length) ⟨0, H.next⟩ ⟨Nat.le_refl _, Nat.zero_le _⟩ (by simp [FT.Le, Wk]) ⟨HWk.refl _, fun h => h⟩ ?_
  rintro ⟨i, n⟩ ⟨hn, hi⟩ hok
  dsimp only at hn hi
  by_cases hlt : i < A.length
  · simp (disch := omega) [hlt, eqBA_rfl, eqL, wrap_nat (show i < 2 ^ 62 by omega)]
    exact ⟨⟨i + 1, n⟩, by dsimp only; omega, ⟨by dsimp only; omega, by dsimp only; omega⟩, by simp [FT.Le, Wk], HWk.refl _, fun h => h⟩
  · simp (disch := omega) [hlt]
    exact doneK hH (by first | rfl | simp [])
abbrev arrB (bits : List Bool) : LObj := .arr 1 (bits.map LV.bool)
def bitsOf (V U : List PK) : List Bool := V.map fun k => hasP k U
theorem bitsOf_len (V U : List PK) : (bitsOf V U).length = V.length := List.length_map ..
theorem kIdx_get {k : PK} : ∀ {V : List PK}, k ∈ V -> V[kIdx k V]? = some k
  | [], h => by cases h
  | j :: r, h => by
    simp only [kIdx]
    by_cases hk : eqPK k j = true
    · rw [if_pos hk, eqPK_iff.1 hk]; rfl
    · rw [if_neg hk]
      rcases List.mem_cons.1 h with e | h
      · exact absurd (eqPK_iff.2 e) hk
      · rw [List.getElem?_cons_succ]; exact kIdx_get h
theorem kIdx_lt {k : PK} {V : List PK} (h : k ∈ V) : kIdx k V < V.length := (List.getElem?_eq_some_iff.1 (kIdx_get h)).1
theorem bits_get {k : PK} {V U : List PK} (h : k ∈ V) : (bitsOf V U)[kIdx k V]? = some (hasP k U) := by
  unfold bitsOf
  rw [List.getElem?_map, kIdx_get h]
  rfl
theorem hasP_add {j k : PK} {U : List PK} : hasP j (addP k U) = (hasP j U || eqPK j k) := by
  rw [Bool.eq_iff_iff, Bool.or_eq_true, hasP_iff, hasP_iff, eqPK_iff]
  unfold addP
  split
  · rename_i h
    exact ⟨.inl, fun h' => h'.elim id fun e => e ▸ hasP_iff.1 h⟩
  · rw [List.mem_append, List.mem_singleton]
theorem bits_set {k : PK} {U : List PK} : ∀ {V : List PK}, V.Nodup -> k ∈ V -> (bitsOf V U).set (kIdx k V) true = bitsOf V (addP k U)
  | [], _, h => by cases h
  | j :: r, hn, h => by
    obtain ⟨h1, h2⟩ := List.nodup_cons.1 hn
    show (hasP j U :: bitsOf r U).set (kIdx k (j :: r)) true = hasP j (addP k U) :: bitsOf r (addP k U)
    simp only [kIdx]
    by_cases hk : eqPK k j = true
    · have e := eqPK_iff.1 hk
      subst e
      rw [if_pos hk, List.set_cons_zero, hasP_add, eqPK_iff.2 rfl, Bool.or_true]
      congr 1
      unfold bitsOf
      refine List.map_congr_left fun i hi => ?_
      rw [hasP_add]
      have : eqPK i k = false := by
        cases hb : eqPK i k with
        | false => rfl
        | true => rw [eqPK_iff.1 hb] at hi; exact absurd hi h1
      rw [this, Bool.or_false]
    · rw [if_neg hk, List.set_cons_succ, hasP_add]
      have hr : k ∈ r := by
        rcases List.mem_cons.1 h with e | h
        · exact absurd (eqPK_iff.2 e) hk
        · exact h
      have : eqPK j k = false := by
        cases hb : eqPK j k with
        | false => rfl
        | true => exact absurd (eqPK_iff.2 (eqPK_iff.1 hb).symm) hk
      rw [this, Bool.or_false, bits_set h2 hr]
section
variable {V U : List PK} {k : PK} (hk : k ∈ V) {o n : Nat} {ob : List (Nat × LObj)} (hl : look o ob = some (arrB (bitsOf V U)))
include hk hl
theorem bit_ia : iaL ⟨ob, n⟩ 1 (.asl o 0 V.length) (.int (kIdx k V : Int)) = some (.ptr o (kIdx k V)) := by
  simp [iaL, natOf_nat, hl, kIdx_lt hk]
theorem bit_ld : loadL ⟨ob, n⟩ none (.ptr o (kIdx k V)) = some (.bool (hasP k U)) := by
  simp only [loadL, hl, partL]
  rw [List.getElem?_map, bits_get hk]
  rfl
theorem bit_st (hn : V.Nodup) : stL ⟨ob, n⟩ 1 (.ptr o (kIdx k V)) (B true) = some ⟨putO o (arrB (bitsOf V (addP k U))) ob, n⟩ := by
  have hlt := kIdx_lt hk
  have hbl : ((bitsOf V U).map LV.bool).length = V.length := by rw [List.length_map, bitsOf_len]
  unfold stL
  simp only [hl]
  rw [if_pos ⟨rfl, rfl, by rw [hbl]; omega⟩]
  have e : ((bitsOf V U).map LV.bool).take (kIdx k V) ++ [B true] ++ ((bitsOf V U).map LV.bool).drop (kIdx k V + 1) = (bitsOf V (addP k U)).map LV.bool := by
    rw [<- bits_set hn hk, List.map_set, List.set_eq_take_append_cons_drop, if_pos (by rw [hbl]; exact hlt), List.append_assoc]
    rfl
  show some (LHeap.put ⟨ob, n⟩ o (.arr 1 (((bitsOf V U).map LV.bool).take (kIdx k V) ++ [B true] ++ ((bitsOf V U).map LV.bool).drop (kIdx k V + 1)))) = _
  rw [e]
  rfl
end
theorem find_idx {m : List (PK × Int)} {V : List PK} (hV : pKeys m = V) {a : Atom} (ha : ofA a ∈ V) : findSt (stratsOf m) (ofA a) 0 = (kIdx (ofA a) V : Int) := by
  subst hV
  rw [(idx_spec ha).2.1 0, kIdx_eq]
  simp
def iterW (l : List Clause) : Nat -> List PK -> List PK
  | 0, U => U
  | n + 1, U => iterW l n (wRound l U)
theorem strat_keys {m : List (PK × Int)} {V : List PK} (hV : pKeys m = V) {i : Nat} (hi : i < V.length) (hm : i < m.length) : V[i] = m[i].1 := by
  subst hV
  simp [pKeys]
theorem opP_ms {E : Env} {F : Fns} (z : List LV) (x : BO) (t : FT) (H : LHeap) (kv kp : HP) : opP E F (.ms z x) t H kv kp = evP E x t fun a => vP (natOf a) fun n => n <= 2 ^ 30 /\ kv (.asl H.next 0 n) ⟨(H.next, .arr z.length (List.replicate n z).flatten) :: H.objs, H.next + 1⟩ := by
  show effP E _ t H kv = _
  rw [effP_of1 rfl]
  unfold evP
  simp only [effB]
  cases natOf (E.ev t.get x) with
  | none => rw [Option.bind_none, vP_none]; apply propext; constructor
            · rintro ⟨_, _, h, _⟩; cases h
            · intro h; exact h.elim
  | some n =>
    rw [Option.bind_some, vP_some]
    split
    · rename_i h
      rw [eP_some]
      simp only [h, true_and]
      rfl
    · rename_i h
      apply propext
      constructor
      · rintro ⟨_, _, h', _⟩; cases h'
      · rintro ⟨h', _⟩; exact absurd h' h
theorem bs_st {bs : List Bool} {o n j : Nat} {ob : List (Nat × LObj)} (hl : look o ob = some (arrB bs)) (hj : j < bs.length) (b : Bool) : stL ⟨ob, n⟩ 1 (.ptr o j) (.bool b) = some ⟨putO o (arrB (bs.set j b)) ob, n⟩ := by
  have hbl : (bs.map LV.bool).length = bs.length := List.length_map ..
  unfold stL
  simp only [hl]
  rw [if_pos ⟨rfl, rfl, by rw [hbl]; omega⟩]
  have e : (bs.map LV.bool).take j ++ [LV.bool b] ++ (bs.map LV.bool).drop (j + 1) = (bs.set j b).map LV.bool := by
    rw [List.map_set, List.set_eq_take_append_cons_drop, if_pos (by rw [hbl]; exact hj), List.append_assoc]
    rfl
  show some (LHeap.put ⟨ob, n⟩ o (.arr 1 ((bs.map LV.bool).take j ++ [LV.bool b] ++ (bs.map LV.bool).drop (j + 1)))) = _
  rw [e]
  rfl
theorem look_putO_ne {i j : Nat} {x : LObj} (h : i ≠ j) : ∀ {l : List (Nat × LObj)}, look i (putO j x l) = look i l
  | [] => rfl
  | (k, y) :: r => by
    simp only [putO]
    by_cases hk : j = k
    · subst hk
      rw [if_pos rfl]
      simp only [look]
      rw [if_neg h, if_neg h]
    · rw [if_neg hk]
      simp only [look]
      rw [look_putO_ne h]
structure NNB where
  i : Nat
  n : Nat
  bs : List Bool
theorem t_rrelevant (l : List Clause) (hl : SmallL l) (pred : ByteArray) (args : Int) (hne : (checkB l).1 = 0 -> ∀ m, refS l = some m -> pKeys m = pKeys (predM l)) (H : LHeap) {kv kp : HP}
    (h0 : rstratE l (refS l) ≠ 0 -> ∀ n, H.next <= n -> kv (.agg [Nl, .int (rstratE l (refS l))]) ⟨H.objs, n⟩)
    (h2 : rstratE l (refS l) = 0 -> ∀ own n, H.next <= n -> kv (.agg [.sl (intsL (relI (iterW l (predM l).length [(pred, args)]) l 0)) own, .int 0]) ⟨H.objs, n⟩) : cP E0 F0 16 [clausesL l, .str pred, .int args] H kv kp := by
  obtain ⟨ownS, hs⟩ := t_rstratified l hl
  refine cP_of_fn c16 fun hH => ⟨Nat.le_of_ble_eq_true rfl, ?_⟩
  simp (disch := omega) [b16]
  refine hs.go fun n1 hn1 => ?_
  have hbase : ∀ (ob : List (Nat × LObj)) (n : Nat), H.next <= n -> (∀ i, i < H.next -> look i ob = look i H.objs) -> HWk ⟨ob, n⟩ ⟨H.objs, n⟩ := fun ob n hn h => ⟨Nat.le_refl _, fun i x hx => by rw [h i (hH.look hx)]; exact hx⟩
  by_cases he : rstratE l (refS l) = 0
  case neg =>
    simp (disch := omega) [he]
    refine ⟨⟨H.objs, n1 + 1⟩, hbase _ _ (by omega) (fun i hi => ?_), fun _ => Desc.mono hH (by dsimp only; omega), h0 he _ (by omega)⟩
    simp only [look]
    rw [if_neg (by omega), if_neg (by omega)]
  have hc : (checkB l).1 = 0 := by
    apply Classical.byContradiction
    intro hc
    unfold rstratE at he
    rw [if_pos hc] at he
    exact hc he
  obtain ⟨m, hm⟩ : ∃ m, refS l = some m := by
    cases hS : refS l with
    | none => unfold rstratE at he; rw [if_neg (by simpa using hc), if_pos hS] at he; cases he
    | some m => exact ⟨m, rfl⟩
  have hA : rstratL l (refS l) = stratsOf m := by unfold rstratL; rw [if_neg (by simpa using hc), hm]; rfl
  have hkm := hne hc m hm
  have hg := good_of hc
  have hpk := pred_ok (l := l) fun c hc x hx => (hg.kind c hc x hx).1
  obtain ⟨V, hV⟩ : ∃ V, pKeys (predM l) = V := ⟨_, rfl⟩
  have hVm : pKeys m = V := hkm.trans hV
  have hNd : V.Nodup := by rw [<- hV]; exact nodup_predM l
  have hhas : ∀ c ∈ l, ∀ k ∈ predC c, k ∈ V := by rw [<- hV]; exact hpk.has
  have hlP : (predM l).length = V.length := by rw [<- hV, pKeys_len]
  have hlM : m.length = V.length := by rw [<- hVm, pKeys_len]
  have hlS : (stratsOf m).length = V.length := by rw [stratsOf_len, hlM]
  rw [hlP] at h2
  have hVb : V.length <= 240 := by
    rw [<- hlP]
    have h1 : (predM l).length = (predsL l).length := List.length_map ..
    have h3 := (fold_len (allA l) []).1
    have h4 := hg.allLen
    unfold predsL at h1
    simp only [List.length_nil] at h3
    omega
  have h2 := h2 he
  rw [hA, he]
  have hbig : V.length <= 2 ^ 30 := by omega
  simp (disch := omega) [opP_ms, hlS, natOf_nat, hbig]
  obtain ⟨A, hAd⟩ : ∃ A, stratsOf m = A := ⟨_, rfl⟩
  rw [hAd] at hlS
  obtain ⟨o, ho⟩ : ∃ o, n1 + 1 = o := ⟨_, rfl⟩
  obtain ⟨ob, hob⟩ : ∃ ob : List (Nat × LObj), (n1, LObj.cells [LV.sl (A.map stratL) ownS, LV.int 0]) :: (H.next, LObj.cells [Nl, Z 0]) :: H.objs = ob := ⟨_, rfl⟩
  have hobk : Desc ob o := by rw [<- hob, <- ho]; exact ⟨Nat.lt_succ_self _, ⟨by omega, Desc.mono hH (Nat.le_refl _)⟩⟩
  have lk7 : ∀ x : LObj, look n1 ((o, x) :: ob) = some (.cells [.sl (A.map stratL) ownS, .int 0]) := fun x => by rw [look_ne (by omega), <- hob]; exact look_self _ _ _
  have lk6 : ∀ x : LObj, look H.next ((o, x) :: ob) = some (.cells [Nl, Z 0]) := fun x => by rw [look_ne (by omega), <- hob, look_ne (by omega)]; exact look_self _ _ _
  have lk8 : ∀ U : List PK, look o ((o, arrB (bitsOf V U)) :: ob) = some (arrB (bitsOf V U)) := fun U => look_self _ _ _
  have hOk : ∀ (x : LObj) (n : Nat), o < n -> LHeap.Ok ⟨(o, x) :: ob, n⟩ := fun x n hn => ⟨hn, hobk⟩
  have hkey : ∀ (i : Nat) (h : i < A.length) (h2 : i < V.length), A[i].pred = V[i].1 /\ A[i].args = V[i].2 := by
    intro i h h2
    subst hAd
    have h3 : i < m.length := by rw [hlM]; exact h2
    rw [strats_get h3, strat_keys hVm h2 h3]
    exact ⟨rfl, rfl⟩
  rw [hAd]
  rw [ho, hob]
  have hrep : List.replicate V.length (B false) = ((bitsOf V [(pred, args)]).take 0 ++ List.replicate V.length false).map LV.bool := by simp
  rw [hrep]
  refine lP_enter (σ := NN) (fun q => (FT.node (clausesL l) (FT.node (.str pred) (FT.node .bot (FT.node (.ptr n1 0) .nil .nil) .nil) (FT.node .bot (FT.node (.int q.i) .nil .nil) .nil)) (FT.node (.int args) (FT.node .bot (FT.node (.asl o 0 V.length) .nil .nil) .nil) (FT.node (.ptr H.next 0) .nil .nil)))) (fun q => ⟨(o, arrB ((bitsOf V [(pred, args)]).take q.i ++ List.replicate (V.length - q.i) false)) :: ob, q.n⟩) (fun q => V.length - q.i)
    (fun q => o < q.n /\ q.i <= V.length) ⟨0, o + 1⟩ ⟨Nat.lt_succ_self _, Nat.zero_le _⟩ (by simp [FT.Le, Wk]) ⟨HWk.refl _, fun h => h⟩ ?_
  rintro ⟨i, n⟩ ⟨hn, hi⟩ hok
  dsimp only at hn hi hok
  by_cases hlt : i < V.length
  case pos =>
    have hltA : i < A.length := by omega
    obtain ⟨hk1, hk2⟩ := hkey i hltA hlt
    obtain ⟨bs, hbs⟩ : ∃ bs, (bitsOf V [(pred, args)]).take i ++ List.replicate (V.length - i) false = bs := ⟨_, rfl⟩
    have hbl : bs.length = V.length := by
      rw [<- hbs, List.length_append, List.length_take, bitsOf_len, List.length_replicate]
      omega
    have hset : bs.set i (eqBA A[i].pred pred && decide (A[i].args = args)) = (bitsOf V [(pred, args)]).take (i + 1) ++ List.replicate (V.length - (i + 1)) false := by
      have hbi : i < (bitsOf V [(pred, args)]).length := by rw [bitsOf_len]; exact hlt
      have e1 : (bitsOf V [(pred, args)])[i] = (eqBA A[i].pred pred && decide (A[i].args = args)) := by
        simp only [bitsOf, List.getElem_map, hasP, List.any_cons, List.any_nil, Bool.or_false, eqPK]
        rw [hk1, hk2]
      rw [<- hbs, <- e1, List.set_append_right _ _ (by rw [List.length_take]; omega), List.length_take, Nat.min_eq_left (by omega), Nat.sub_self]
      rw [show V.length - i = (V.length - (i + 1)) + 1 by omega, List.replicate_succ, List.set_cons_zero, List.take_succ_eq_append_getElem hbi, List.append_assoc]
      rfl
    obtain ⟨bs2, hbs2⟩ : ∃ bs2, (bitsOf V [(pred, args)]).take (i + 1) ++ List.replicate (V.length - (i + 1)) false = bs2 := ⟨_, rfl⟩
    rw [hbs2] at hset
    rw [hbs]
    have st := fun b => bs_st (o := o) (n := n) (j := i) (ob := (o, arrB bs) :: ob) (look_self _ _ _) (by rw [hbl]; exact hlt) b
    cases hp : eqBA A[i].pred pred
    · rw [hp, Bool.false_and] at hset
      simp (disch := omega) [-stL, st, lk7, hlS, hlt, hltA, hp, putO, hset, wrap_nat (show i < 2 ^ 62 by omega)]
      refine ⟨⟨i + 1, n⟩, by dsimp only; omega, ⟨hn, by dsimp only; omega⟩, by simp [FT.Le, Wk], ?_⟩
      dsimp only
      rw [hbs2]
      exact ⟨HWk.refl _, fun h => h⟩
    · rw [hp, Bool.true_and] at hset
      simp (disch := omega) [-stL, st, lk7, hlS, hlt, hltA, hp, putO, hset, wrap_nat (show i < 2 ^ 62 by omega)]
      refine ⟨⟨i + 1, n⟩, by dsimp only; omega, ⟨hn, by dsimp only; omega⟩, by simp [FT.Le, Wk], ?_⟩
      dsimp only
      rw [hbs2]
      exact ⟨HWk.refl _, fun h => h⟩
  have hiV : i = V.length := by omega
  subst hiV
  have hall : (bitsOf V [(pred, args)]).take V.length ++ List.replicate (V.length - V.length) false = bitsOf V [(pred, args)] := by
    rw [Nat.sub_self, List.take_of_length_le (by rw [bitsOf_len]; exact Nat.le_refl _)]
    simp
  rw [hall]
  obtain ⟨U0, hU0⟩ : ∃ U0, [(pred, args)] = U0 := ⟨_, rfl⟩
  rw [hU0] at h2 ⊢
  obtain ⟨Uf, hUf⟩ : ∃ Uf, iterW l V.length U0 = Uf := ⟨_, rfl⟩
  rw [hUf] at h2
  have hgl := hg.len
  simp (disch := omega) [lk7, hlS]
  refine lP_enter (σ := NNF) (fun q => (FT.node (clausesL l) (FT.node .bot (FT.node .bot (FT.node (.ptr n1 0) .nil .nil) .nil) .nil) (FT.node .bot (FT.node .bot (FT.node (.asl o 0 V.length) .nil .nil) .nil) (FT.node (.ptr H.next 0) (FT.node (.int q.i) .nil .nil) .nil)))) (fun q => ⟨(o, arrB (bitsOf V q.w)) :: ob, q.n⟩) (fun q => V.length - q.i)
    (fun q => o < q.n /\ q.i <= V.length /\ iterW l (V.length - q.i) q.w = Uf) ⟨0, n, U0⟩ ⟨hn, Nat.zero_le _, hUf⟩ (by simp [FT.Le, Wk]) ⟨HWk.refl _, fun h => h⟩ ?_
  rintro ⟨r, n2, U⟩ ⟨hn2, hr, hU⟩ hok2
  dsimp only at hn2 hr hU hok2
  by_cases hrl : r < V.length
  case pos =>
    rw [show V.length - r = (V.length - (r + 1)) + 1 by omega] at hU
    simp only [iterW] at hU
    obtain ⟨Q, hQ⟩ : ∃ Q, wRound l U = Q := ⟨_, rfl⟩
    rw [hQ] at hU
    simp (disch := omega) [lk7, hlS, hrl]
    refine lP_enter (σ := NNF) (fun q => (FT.node (clausesL l) (FT.node .bot (FT.node .bot (FT.node (.ptr n1 0) .nil .nil) (FT.node (.int q.i) .nil .nil)) .nil) (FT.node .bot (FT.node .bot (FT.node (.asl o 0 V.length) .nil .nil) .nil) (FT.node (.ptr H.next 0) (FT.node (.int r) .nil .nil) .nil)))) (fun q => ⟨(o, arrB (bitsOf V q.w)) :: ob, q.n⟩) (fun q => l.length - q.i)
      (fun q => o < q.n /\ q.i <= l.length /\ (l.drop q.i).foldl wStepC q.w = Q) ⟨0, n2, U⟩ ⟨hn2, Nat.zero_le _, hQ⟩ (by simp [FT.Le, Wk]) ⟨HWk.refl _, fun h => h⟩ ?_
    rintro ⟨i, n3, U3⟩ ⟨hn3, hi3, he3⟩ hok3
    dsimp only at hn3 hi3 he3 hok3
    by_cases hlt3 : i < l.length
    case neg =>
      rw [List.drop_eq_nil_of_le (by omega)] at he3
      simp only [List.foldl_nil] at he3
      subst he3
      simp (disch := omega) [hlt3, wrap_nat (show r < 2 ^ 62 by omega)]
      exact ⟨⟨r + 1, n3, U3⟩, by dsimp only; omega, ⟨hn3, by dsimp only; omega, hU⟩, by simp [FT.Le, Wk], HWk.refl _, fun h => h⟩
    rw [List.drop_eq_getElem_cons hlt3, List.foldl_cons] at he3
    have hcm := mem_at hlt3
    have hhd : ofA l[i].head ∈ V := hhas _ hcm _ List.mem_cons_self
    have hfd := find_idx hVm hhd
    rw [hAd] at hfd
    simp (disch := omega) [lk7, hlt3]
    refine (t_rfind A ownS l[i].head (by omega)).x (.sc _) ?_
    rw [hfd]
    have ia := bit_ia (n := n3) hhd (lk8 U3)
    have ld := bit_ld (n := n3) hhd (lk8 U3)
    cases hh : hasP (ofA l[i].head) U3
    · have e : wStepC U3 l[i] = U3 := by unfold wStepC; rw [hh]; rfl
      rw [e] at he3
      rw [hh] at ld
      simp (disch := omega) [-iaL, -loadL, ia, ld, wrap_nat (show i < 2 ^ 62 by omega)]
      exact ⟨⟨i + 1, n3, U3⟩, by dsimp only; omega, ⟨hn3, by dsimp only; omega, he3⟩, by simp [FT.Le, Wk], HWk.refl _, fun h => h⟩
    have e : wStepC U3 l[i] = l[i].body.foldl wLit U3 := by unfold wStepC; rw [hh]; rfl
    rw [e] at he3
    obtain ⟨Q2, hQ2⟩ : ∃ Q2, l[i].body.foldl wLit U3 = Q2 := ⟨_, rfl⟩
    rw [hQ2] at he3
    have hbl := hg.body _ hcm
    rw [hh] at ld
    simp (disch := omega) [-iaL, -loadL, ia, ld]
    refine lP_enter (σ := NNF) (fun q => (FT.node (clausesL l) (FT.node .bot (FT.node .bot (FT.node (.ptr n1 0) .nil .nil) (FT.node (.int i) .nil .nil)) .nil) (FT.node .bot (FT.node .bot (FT.node (.asl o 0 V.length) .nil .nil) (FT.node (.int q.i) .nil .nil)) (FT.node (.ptr H.next 0) (FT.node (.int r) .nil .nil) .nil)))) (fun q => ⟨(o, arrB (bitsOf V q.w)) :: ob, q.n⟩) (fun q => l[i].body.length - q.i)
      (fun q => o < q.n /\ q.i <= l[i].body.length /\ (l[i].body.drop q.i).foldl wLit q.w = Q2) ⟨0, n3, U3⟩ ⟨hn3, Nat.zero_le _, hQ2⟩ (by simp [FT.Le, Wk]) ⟨HWk.refl _, fun h => h⟩ ?_
    rintro ⟨j, n4, U4⟩ ⟨hn4, hj, he4⟩ hok4
    dsimp only at hn4 hj he4 hok4
    by_cases hlt4 : j < l[i].body.length
    case neg =>
      rw [List.drop_eq_nil_of_le (by omega)] at he4
      simp only [List.foldl_nil] at he4
      subst he4
      simp (disch := omega) [hlt3, hlt4, wrap_nat (show i < 2 ^ 62 by omega)]
      exact ⟨⟨i + 1, n4, U4⟩, by dsimp only; omega, ⟨hn4, by dsimp only; omega, he3⟩, by simp [FT.Le, Wk], HWk.refl _, fun h => h⟩
    rw [List.drop_eq_getElem_cons hlt4, List.foldl_cons] at he4
    have hkd := hg.kind _ hcm _ (mem_at hlt4)
    by_cases hk2 : l[i].body[j].kind <= 2
    · have hk12 : l[i].body[j].kind = 1 \/ l[i].body[j].kind = 2 := by omega
      have hat : ofA l[i].body[j].atom ∈ V := hhas _ hcm _ (List.mem_cons_of_mem _ (List.mem_map.2 ⟨l[i].body[j], List.mem_filter.2 ⟨mem_at hlt4, by simpa using hk12⟩, rfl⟩))
      have e3 : wLit U4 l[i].body[j] = addP (ofA l[i].body[j].atom) U4 := by
        unfold wLit
        rw [if_pos (by simpa using hk12)]
      rw [e3] at he4
      have hfd2 := find_idx hVm hat
      rw [hAd] at hfd2
      simp (disch := omega) [lk7, hlt3, hlt4, hk2]
      refine (t_rfind A ownS l[i].body[j].atom (by omega)).x (.sc _) ?_
      rw [hfd2]
      have ia2 := bit_ia (n := n4) hat (lk8 U4)
      have st2 := bit_st (n := n4) hat (lk8 U4) hNd
      simp (disch := omega) [-iaL, -stL, ia2, st2, putO, wrap_nat (show j < 2 ^ 62 by omega)]
      exact ⟨⟨j + 1, n4, addP (ofA l[i].body[j].atom) U4⟩, by dsimp only; omega, ⟨hn4, by dsimp only; omega, he4⟩, by simp [FT.Le, Wk], HWk.refl _, fun h => h⟩
    · have e3 : wLit U4 l[i].body[j] = U4 := by
        unfold wLit
        rw [if_neg (by simp; omega)]
      rw [e3] at he4
      simp (disch := omega) [hlt3, hlt4, hk2, wrap_nat (show j < 2 ^ 62 by omega)]
      exact ⟨⟨j + 1, n4, U4⟩, by dsimp only; omega, ⟨hn4, by dsimp only; omega, he4⟩, by simp [FT.Le, Wk], HWk.refl _, fun h => h⟩
  have hrV : r = V.length := by omega
  subst hrV
  rw [Nat.sub_self] at hU
  simp only [iterW] at hU
  subst hU
  simp (disch := omega) [lk7, hlS]
  obtain ⟨L, hL⟩ : ∃ L, relI U l 0 = L := ⟨_, rfl⟩
  rw [hL] at h2
  have hLl : L.length <= 40 := by rw [<- hL]; have := relI_len U l 0; omega
  refine lP_enter (σ := NNI2) (fun q => (FT.node (clausesL l) (FT.node .bot (FT.node .bot (FT.node (.ptr n1 0) .nil .nil) .nil) (FT.node .bot .nil (FT.node (.sl (intsL q.ns) q.own) .nil .nil))) (FT.node .bot (FT.node .bot (FT.node (.asl o 0 V.length) .nil .nil) .nil) (FT.node (.ptr H.next 0) .nil (FT.node (.int q.i) .nil .nil))))) (fun q => ⟨q.ob, q.n⟩) (fun q => l.length - q.i)
    (fun q => RowT ⟨(o, arrB (bitsOf V U)) :: ob, o + 1⟩ 1 q.ns.length q.own q.ob q.n /\ o < q.n /\ q.i <= l.length /\ q.ns ++ relI U (l.drop q.i) q.i = L) ⟨0, n2, [], .full, (o, arrB (bitsOf V U)) :: ob⟩ ⟨.inl ⟨rfl, rfl, hn2⟩, hn2, Nat.zero_le _, by simpa using hL⟩ (by simp [FT.Le, Wk]) ⟨HWk.refl _, fun h => h⟩ ?_
  rintro ⟨i, n3, ns, own, ob3⟩ ⟨hr, hn3, hi, he3⟩ hok3
  dsimp only at hr hn3 hi he3 hok3
  have hnl : ns.length <= 40 := by
    have := congrArg List.length he3
    rw [List.length_append] at this
    omega
  have hob3 : ob3 = (o, arrB (bitsOf V U)) :: ob \/ ∃ t, o < t /\ ob3 = (t, .tok ns.length 1) :: (o, arrB (bitsOf V U)) :: ob := by
    rcases hr with ⟨_, rfl, _⟩ | ⟨t, _, g1, g2, rfl⟩
    · exact .inl rfl
    · exact .inr ⟨t, g1, rfl⟩
  have hlook : ∀ j, j <= o -> look j ob3 = look j ((o, arrB (bitsOf V U)) :: ob) := fun j hj => by
    rcases hob3 with rfl | ⟨t, g1, rfl⟩
    · rfl
    · exact look_ne (show ¬ j = t by omega) _ _
  have k8 : look o ob3 = some (arrB (bitsOf V U)) := (hlook o (Nat.le_refl _)).trans (lk8 U)
  have k7 : look n1 ob3 = some (.cells [.sl (A.map stratL) ownS, .int 0]) := (hlook n1 (by omega)).trans (lk7 _)
  have k6 : look H.next ob3 = some (.cells [Nl, Z 0]) := (hlook H.next (by omega)).trans (lk6 _)
  by_cases hlt : i < l.length
  case neg =>
    rw [List.drop_eq_nil_of_le (by omega)] at he3
    simp only [relI, List.append_nil] at he3
    subst he3
    have k6' : look H.next (putO H.next (.cells [.sl (intsL ns) own, .int 0]) ob3) = some (.cells [.sl (intsL ns) own, .int 0]) := look_putO k6
    simp (disch := omega) [hlt, k6, k6', resP_c]
    refine ⟨⟨H.objs, n3⟩, hbase _ _ (by omega) (fun j hj => ?_), fun _ => Desc.mono hH (by dsimp only; omega), h2 own n3 (by omega)⟩
    rw [look_putO_ne (by omega), hlook j (by omega), look_ne (by omega), <- hob, look_ne (by omega), look_ne (by omega)]
  rw [List.drop_eq_getElem_cons hlt] at he3
  simp only [relI] at he3
  have hcm := mem_at hlt
  have hhd : ofA l[i].head ∈ V := hhas _ hcm _ List.mem_cons_self
  have hfd := find_idx hVm hhd
  rw [hAd] at hfd
  simp (disch := omega) [k7, hlt]
  refine (t_rfind A ownS l[i].head (by omega)).x (.sc _) ?_
  rw [hfd]
  have ia := bit_ia (n := n3) hhd k8
  have ld := bit_ld (n := n3) hhd k8
  cases hh : hasP (ofA l[i].head) U
  · rw [hh] at ld
    rw [hh, if_neg (by simp)] at he3
    simp (disch := omega) [-iaL, -loadL, ia, ld, wrap_nat (show i < 2 ^ 62 by omega)]
    exact ⟨⟨i + 1, n3, ns, own, ob3⟩, by dsimp only; omega, ⟨hr, hn3, by dsimp only; omega, he3⟩, by simp [FT.Le, Wk], HWk.refl _, fun h => h⟩
  rw [hh] at ld
  rw [hh, if_pos rfl] at he3
  have he4 : ns ++ [(i : Int)] ++ relI U (l.drop (i + 1)) (i + 1) = L := by rw [List.append_assoc]; exact he3
  simp (disch := omega) [-iaL, -loadL, ia, ld]
  refine effP_ap ?_
  obtain ⟨own4, ob4, n4, e4, hr4, hn4⟩ := row_ap (sz := 1) (es := intsL ns) (by omega) (ints_all ns) (by rw [List.length_map]; omega) (by rw [List.length_map]; exact hr) (x := .int (i : Int)) rfl .full
  rw [List.length_map] at hr4
  simp (disch := omega)
  rw [show apL ⟨ob3, n3⟩ 1 (.sl (List.map LV.int ns) own) (.sl [.int (i : Int)] .full) = _ from e4]
  simp (disch := omega) [wrap_nat (show i < 2 ^ 62 by omega)]
  exact ⟨⟨i + 1, n4, ns ++ [(i : Int)], own4, ob4⟩, by dsimp only; omega, ⟨by simp only [List.length_append, List.length_cons, List.length_nil]; exact hr4, by dsimp only; omega, by dsimp only; omega, he4⟩, by simp [FT.Le, Wk], HWk.refl _, fun h => h⟩
end Go.Abs.Tz
