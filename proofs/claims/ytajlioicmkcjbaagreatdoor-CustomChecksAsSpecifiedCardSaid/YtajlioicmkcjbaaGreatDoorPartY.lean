/- A part of the proof that for every row of clauses, every atom and every number the law CustomChecksAsSpecified returns true, and all read afterwards as before. Conditions: none of its own. -/
import Derived.Test.YtajlioicmkcjbaaGreatDoorPartD
import Derived.Test.YtajlioicmkcjbaaGreatDoorPartX
import Derived.Test.YtajlioicmkcjbaaGreatDoorPartI
import Derived.Test.YtajlioicmkcjbaaGreatDoorPartW
import Derived.Test.YtajlioicmkcjbaaGreatDoorPartV
namespace Go.Abs
open Go
theorem Inv.arr_turn {G : Ghost} {w w' : World} {H : LHeap} (hI : Inv G w H) {o s : Nat} {cs cs' : List LV} {vs vs' : Array Value} {el : TypeId} {fz : Nat × Nat} (hl : look o H.objs = some (.arr s cs)) (h0 : w.heap[G.loc o]? = some (.cells vs el fz))
    (hos : w'.os = w.os) (htape : w'.tape = w.tape) (hout : w'.output = w.output) (hsize : w.heap.size <= w'.heap.size) (hkeep : ∀ k, k < w.heap.size -> k ≠ G.loc o -> w'.heap[k]? = w.heap[k]?)
    (h1 : w'.heap[G.loc o]? = some (.cells vs' el fz)) (hsz : vs'.size = vs.size) (hlen : cs'.length = cs.length)
    (hnew : ∀ (i : Nat) (c : LV), cs'[i]? = some c -> (∀ (G' : Ghost) (w' : World), VR G' w' c (vs'.getD i undef)) /\ (vs'.getD i undef).oneCell' = true) : Ext G w G w' /\ Inv G w' (H.put o (.arr s cs')) := by
  obtain ⟨hob, vs0, el0, fz0, a1, a2, a3, ⟨b1, b2, b3⟩, a4, a5, a6⟩ := hI.objs o _ hl
  rw [h0] at a1
  cases a1
  have hlt : ∀ {k : Nat} {ob : Obj}, w.heap[k]? = some ob -> k < w.heap.size := fun h => (Array.getElem?_eq_some_iff.1 h).1
  have hx : Ext G w G w' := by
    refine ⟨hos, htape, hout, hsize, rfl, fun k hk => hkeep k (hI.hB k hk) (fun e => a2 (e ▸ hk)), Nat.le_refl _, fun _ _ => rfl, fun _ _ => rfl, fun b x hc => ⟨hc, fun v hv => ?_⟩, fun t _ m b c h => ⟨m, b, c, h, Nat.le_refl _, fun _ => ⟨rfl, rfl⟩⟩, rfl⟩
    have hb : b < w.heap.size := by
      rcases Nat.lt_or_ge b w.heap.size with h | h
      · exact h
      · rw [hI.free b x h] at hc; cases hc
    have hne : b ≠ G.loc o := fun e => by rw [e, a4] at hc; cases hc
    rw [cell?_of_block (hkeep b hb hne)]; exact hv
  refine ⟨hx, ?_⟩
  refine Inv.step (W := fun k _ => k = G.loc o) (V := fun _ => False) (fun i => i = o) hI hx ⟨fun k us el' fz' h => ?_, fun k ob h hn _ => ?_⟩ hI.n (fun b x h => hI.free b x (Nat.le_trans hsize h)) (fun b x h => hI.old b x h) (fun i x hi h => ?_)
    (fun i k x hi hk hw => ?_) (fun _ _ _ h => h) (fun _ _ _ _ => ⟨fun h => h, fun h => h⟩) (fun _ _ _ => rfl) ?_ ?_
  · by_cases hk : k = G.loc o
    · subst hk
      rw [h0] at h
      cases h
      exact ⟨vs', h1, hsz, fun x hx => absurd rfl hx⟩
    · exact ⟨us, by rw [hkeep k (hlt h) hk]; exact h, rfl, fun _ _ => rfl⟩
  · by_cases hk : k = G.loc o
    · subst hk
      rw [h0] at h
      cases h
      exact absurd rfl (hn _ _ _)
    · rw [hkeep k (hlt h) hk]; exact h
  · rw [look_put hl] at h
    rw [if_neg hi] at h
    exact h
  · subst hw
    rw [a4] at hk
    cases hk
    exact hi rfl
  · intro m es' hm he'
    rw [look_put hl] at he'
    split at he'
    · cases he'
    · refine ⟨es', he', Nat.le_refl _, fun _ ents' clock' h' => ?_⟩
      obtain ⟨_, hob⟩ := hI.objs m _ he'
      obtain ⟨ents, clock, g1, _⟩ := hob
      have hne : G.loc m ≠ G.loc o := fun e => by rw [e, h0] at g1; cases g1
      rw [hkeep _ (hlt g1) hne, g1] at h'
      cases h'
      exact ⟨_, _, g1, rfl, fun _ => rfl⟩
  · intro i x hi h
    subst hi
    rw [look_put hl, if_pos rfl] at h
    cases h
    refine ⟨hob, vs', el, fz, h1, a2, by rw [hlen, hsz]; exact a3, ⟨b1, by rw [hsz]; exact b2, by rw [hlen]; exact b3⟩, a4, fun x => ?_, fun j c hc => ⟨(hnew j c hc).1 _ _, (hnew j c hc).2⟩⟩
    have := a5 x
    unfold World.frozen? at this ⊢
    rw [show (at_ (G.loc i) x).block = G.loc i from rfl] at this ⊢
    rw [h0] at this
    rw [h1]
    exact this
end Go.Abs
set_option maxRecDepth 100000
namespace Go.Abs.Tz
open Go Go.Abs Go.Proofs Go.Shelf Go.RowKit Go.Lib Go.Sort
instance : Inhabited Strat := ⟨⟨.empty, 0, 0⟩⟩
def encS (x : Strat) : List Value := [.string x.pred, .int .i64 x.args, .int .i64 x.level]
theorem flat_at : ∀ (A : List Strat) (i : Nat), (A.flatMap stratC)[i]? = A[i / 3]?.map fun x => .sc ((encS x)[i % 3]!)
  | [], i => by simp
  | x :: A, i => by
    rcases Nat.lt_or_ge i 3 with h | h
    · have h2 : i / 3 = 0 := by omega
      rw [h2, List.flatMap_cons, List.getElem?_append_left (by simpa using h)]
      rcases i with _ | _ | _ | i
      · rfl
      · rfl
      · rfl
      · omega
    · obtain ⟨k, rfl⟩ : ∃ k, i = k + 3 := ⟨i - 3, by omega⟩
      rw [List.flatMap_cons, List.getElem?_append_right (by simp), show (k + 3) / 3 = k / 3 + 1 by omega, show (k + 3) % 3 = k % 3 by omega]
      simpa using flat_at A k
theorem flat_at2 {A : List Strat} {i : Nat} (h : i < A.length * 3) : (A.flatMap stratC)[i]? = some (.sc ((encS A.toArray[i / 3]!)[i % 3]!)) := by
  have h1 : i / 3 < A.length := by omega
  rw [flat_at, List.getElem?_eq_getElem h1]
  simp [h1]
theorem oneCell_encS (x : Strat) : ∀ v ∈ encS x, v.oneCell' = true := by
  intro v hv
  simp [encS] at hv
  rcases hv with rfl | rfl | rfl <;> rfl
theorem swoS : SWO (ltOf cmpS) := by
  have e : (ltOf cmpS) = ltS := rfl
  rw [e]
  refine ⟨fun x => ?_, fun x y z h k => ?_, fun x y z h k => ltS_neg z y x k h⟩
  · cases h : ltS x x with
    | false => rfl
    | true => exact absurd ((ltS_iff _ _).1 h) (keyLt_asymm ((ltS_iff _ _).1 h))
  · exact (ltS_iff _ _).2 (keyLt_trans ((ltS_iff _ _).1 h) ((ltS_iff _ _).1 k))
theorem sc_of {G : Ghost} {w : World} {v u : Value} (h : VR G w (.sc v) u) : u = v := by cases h; rfl
theorem enc3 (x : Strat) {r : Nat} (h : r < 3) : (encS x)[r]! ∈ encS x := by
  rcases r with _ | _ | _ | r
  · simp [encS]
  · simp [encS]
  · simp [encS]
  · omega
def ClosureOk (g : Nat) : Prop := ∀ (x y : Strat) (W : World), Calls Tryz.prog g #[.agg #[.string x.pred, .int .i64 x.args, .int .i64 x.level], .agg #[.string y.pred, .int .i64 y.args, .int .i64 y.level]] W fun e w' => e = .returned (.int .i64 (cmpS x y)) /\ ∃ q os', w' = grow (W.drewN q) os'
theorem t_sortG (hcl : ClosureOk 39) (A : List Strat) (o : Nat) (ob : List (Nat × LObj)) (nx : Nat) (hlo : look o ob = some (arrS A)) (hA : A.length < 2 ^ 40) {kv kp : HP}
    (hk : ∀ B : List Strat, B.Perm A -> (B.Pairwise fun x y => ltS y x = false) -> kv (.tup []) ⟨putO o (arrS B) ob, nx⟩) :
    cP E0 F0 38 [.asl o 0 A.length, .fn (.func 39) [] []] ⟨ob, nx⟩ kv kp := by
  intro hH
  refine .prim (show CallOk Tryz.prog E0 _ _ _ _ from ⟨enters_T _ c38, fun G w us hI hE ha => ?_⟩)
  obtain ⟨hus, hua⟩ := ha
  have h0 := hua 0 _ rfl
  have h1 := hua 1 _ rfl
  obtain ⟨u0, u1, rfl⟩ : ∃ u0 u1, us = #[u0, u1] := by
    obtain ⟨l⟩ := us
    match l, hus with
    | [a, b], _ => exact ⟨a, b, rfl⟩
  change VR G w (.asl o 0 A.length) u0 at h0
  change VR G w (.fn (.func 39) [] []) u1 at h1
  cases h0 with
  | @asl _ _ _ cap ho hlc hcap =>
  cases h1 with
  | @fn _ _ _ us0 vs0 hfo hu0 hv0 _ _ =>
  obtain rfl : us0 = #[] := Array.eq_empty_of_size_eq_zero hu0
  obtain rfl : vs0 = #[] := Array.eq_empty_of_size_eq_zero hv0
  rw [Nat.zero_mul]
  obtain ⟨hob, vs, el, fz, c1, c2, c3, ⟨d1, d2, d3⟩, c4, c5, c6⟩ := hI.objs o _ hlo
  have hlen : ∀ B : List Strat, (B.flatMap stratC).length = B.length * 3 := fun B => by rw [flat_len stratC_len]
  rw [hlen] at c3 d3
  have hlt : G.loc o < w.heap.size := (Array.getElem?_eq_some_iff.1 c1).1
  have hsz0 : ∀ d : Array Strat, (flatK encS 3 d).size = d.size * 3 := fun d => size_flatK _ _ _
  have hH0 : HoldsK encS 3 w (G.loc o) 0 A.toArray := by
    intro t ht
    rw [hsz0] at ht
    have ht' : t < A.length * 3 := by simpa using ht
    refine ⟨?_, c5 _⟩
    rw [Nat.zero_add, get_flatK _ _ _ _ ht]
    obtain ⟨hv, _⟩ := c6 t _ (flat_at2 ht')
    have hv := sc_of hv
    unfold World.cell?
    rw [c1]
    have ht2 : t < vs.size := by omega
    simp only [Array.getD_eq_getD_getElem?, Array.getElem?_eq_getElem ht2, Option.getD_some] at hv
    simp only [Array.getElem?_eq_getElem ht2, hv]
    rfl
  have hcon := AnyQ.slices_SortFunc Tryz.sortS 3 (fun w => Tryz.isAgg67 w) (fun w => Tryz.sizeOf67 w) encS (fun _ => rfl) oneCell_encS cmpS swoS 39 #[] (G.loc o) 0 cap A.toArray w (fun args w => Go.Proofs.enters_of Tryz.func39 (by kernel_rfl) rfl args w) (fun _ _ _ _ x y => hcl x y _) hH0 hlt (by simp; omega)
  have e0 : (.slice (some ⟨G.loc o, 0, none⟩) A.toArray.size cap : Value) = .slice (some (at_ (G.loc o) 0)) A.length cap := by simp
  rw [e0] at hcon
  refine Calls.mono hcon ?_
  rintro e w' ⟨rfl, d', n, os, ⟨hp1, _, hp2⟩, hs, rfl⟩
  have hd : d'.size = A.length := by simpa using hp1
  have hperm : d'.toList.Perm A := by
    have hd2 : A.toArray.size = d'.size := by simpa using hd.symm
    rw [hd2] at hp2
    have e2 : A.toArray.extract 0 d'.size = A.toArray := by rw [<- hd2]; exact Array.extract_size
    rw [e2, Array.extract_size] at hp2
    exact hp2
  have hsort : d'.toList.Pairwise fun x y => ltS y x = false := by
    rw [List.pairwise_iff_getElem]
    intro i j hi hj hij
    have h := hs i j (Nat.zero_le _) hij (by simp at hj ⊢; omega)
    simp only [Array.length_toList] at hi hj
    rw [getElem!_pos d' i hi, getElem!_pos d' j hj] at h
    exact h
  have hF : (flatK encS 3 d').size = A.length * 3 := by rw [hsz0, hd]
  have hw1 : (sortWorldK encS 3 w (G.loc o) 0 n d' os).heap = (w.heap.modify (G.loc o) (onCells (putCells id 0 (flatK encS 3 d')))) ++ os := rfl
  have hw2 : ∀ k, k < w.heap.size -> (sortWorldK encS 3 w (G.loc o) 0 n d' os).heap[k]? = (w.heap.modify (G.loc o) (onCells (putCells id 0 (flatK encS 3 d'))))[k]? := fun k hk => by
    rw [hw1, Array.getElem?_append_left (by simpa using hk)]
  have hq := Inv.arr_turn (w' := sortWorldK encS 3 w (G.loc o) 0 n d' os) (cs' := d'.toList.flatMap stratC) (vs' := putCells id 0 (flatK encS 3 d') vs) hI hlo c1 rfl rfl rfl (by rw [hw1]; simp) (fun k hk hne => by
      rw [hw2 k hk, Array.getElem?_modify, if_neg (fun e => hne e.symm)]) (by
      rw [hw2 _ hlt, Array.getElem?_modify, if_pos rfl, c1]; rfl) (by simp [putCells]) (by rw [hlen, hlen]; simp [hd]) (fun i c hc => ?_)
  · exact ⟨.tup [], _, G, .inl ⟨_, _, rfl, Desc.put hH, hk _ hperm hsort⟩, .tup rfl (fun _ _ h => by simp at h), hq.2, hq.1⟩
  · have hi : i < d'.toList.length * 3 := by
      have := (List.getElem?_eq_some_iff.1 hc).1
      rw [hlen] at this; exact this
    rw [flat_at2 hi] at hc
    cases hc
    have hi2 : i < A.length * 3 := by simpa [hd] using hi
    have hi3 : i < vs.size := by omega
    have e : (putCells id 0 (flatK encS 3 d') vs).getD i undef = (encS d'[i / 3]!)[i % 3]! := by
      unfold putCells
      rw [Array.getD_eq_getD_getElem?, Array.getElem?_mapIdx, Array.getElem?_eq_getElem hi3]
      simp only [Option.map_some, Option.getD_some, Nat.zero_le, true_and, Nat.zero_add, Nat.sub_zero, hF, hi2, if_true, id]
      rw [get_flatK _ _ _ _ (by rw [hd]; exact hi2)]
    rw [e]
    have e3 : d'.toList.toArray = d' := by simp
    rw [e3]
    exact ⟨fun _ _ => .sc _, oneCell_encS _ _ (enc3 _ (by omega))⟩
end Go.Abs.Tz
namespace Go.Abs.Tz
open Go Go.Abs Go.Proofs
set_option maxRecDepth 20000
set_option linter.unusedSimpArgs false
attribute [local simp ↓] getP_nil getP_node setP_nil setP_node oneP_eq vP_map vP_some vP_none vP_bind eP_some bP_true bP_false gP_yes gP_tf gP_ft gP_tup runP_skip runP_ops runP_drw runP_seq runP_cond runP_blk runP_loop runP_exit runP_ret seqK_n seqK_r seqK_e seqK_p blkK_n blkK_r blkK_e blkK_p loopK_n loopK_r loopK_e loopK_p finK_n finK_r finK_p resP_one resP_two resP_three resP_nil resP_c nxP_nil argsP_nil argsP_cons evP_t evP_c evP_g evsP_nil evsP_cons clP_fn pnP_i opsP_nil opsP_d opsP_x opsP_gt opsP_gf opP_cf opP_cl opP_pn opP_nx valP_mv valP_pk valP_eq valP_bn valP_nt valP_ld valP_fa valP_fd valP_ia valP_ix valP_ln valP_srn valP_srl valP_srh valP_srb valP_cv valP_mi valP_mf valP_xt valP_bs valP_bd valP_nc valP_mn valP_lk valP_ta opP_mv opP_pk opP_eq opP_bn opP_nt opP_ld opP_fa opP_fd opP_ia opP_ix opP_ln opP_sr opP_cv opP_mi opP_mf opP_xt opP_bs opP_bd opP_nc opP_mn opP_lk opP_ta opP_al opP_bx opP_st opP_ap opP_mk opP_nb opP_mu opP_rg opP_en pendP_nil pendP_d pendP_g drwP_nil drwP_d drwP_x drwP_gt drwP_gf look_self natOf_nat
attribute [local simp] faL fdL iaL ixL loadL partL lenL eqK eqL natOf eqB_s eqB_i eqB_b bn_add bn_sub bn_lss bn_leq bn_gtr bn_geq bn_adds bn_lsss bn_gtrs bn_leqs bn_geqs sliceL LV.cells LV.whole look_self put_self putO_self put_eq stL fillL termC dopP LHeap.alloc oneI oneS oneB nth0 nth1 nth2 nth3 nth4 nth5 nth6 nth7 nth8 nth9 look_ne putO_ne
theorem t_insNil : PureT 101 [.sl [] .full, .int 0, .int 0, .fn (.func 39) [] []] (.tup []) := by
  refine PureT.of c101 fun H hH => ⟨Nat.le_of_ble_eq_true rfl, ?_⟩
  simp (disch := omega) [b101, wrap_id]
  refine lP_unroll ?_
  simp (disch := omega) [resP_nil]
  exact doneK hH (by simp [])
theorem t_pdqNil (lim : Int) : PureT 68 [.sl [] .full, .int 0, .int 0, .int lim, .fn (.func 39) [] []] (.tup []) := by
  refine PureT.of c68 fun H hH => ⟨Nat.le_of_ble_eq_true rfl, ?_⟩
  simp (disch := omega) [b68, wrap_id]
  refine lP_unroll ?_
  simp (disch := omega) [wrap_id]
  refine t_insNil.go fun n hn => ?_
  simp (disch := omega) [resP_nil]
  exact doneK hH (by simp [])
theorem t_sortNil0 : PureT 38 [.sl [] .full, .fn (.func 39) [] []] (.tup []) := by
  refine PureT.of c38 fun H hH => ⟨Nat.le_of_ble_eq_true rfl, ?_⟩
  have w0 : IntKind.wrap .u64 0 = 0 := wrap_u (Nat.zero_le 12)
  simp (disch := omega) [b38, wrap_id, w0]
  refine (t_bitsLen 0 (by omega) (by omega)).go fun n hn => ?_
  simp (disch := omega)
  refine (t_pdqNil _).go fun n hn => ?_
  simp (disch := omega) [resP_nil]
  exact doneK hH (by simp [])
theorem t_sortNil (H : LHeap) {kv kp : HP} (hk : ∀ n, H.next <= n -> kv (.tup []) ⟨H.objs, n⟩) :
    cP E0 F0 38 [.sl [] .full, .fn (.func 39) [] []] H kv kp := t_sortNil0 H kv kp hk
theorem sorted_is {B C : List Strat} (hp : B.Perm C) (hs : B.Pairwise fun x y => ltS y x = false) (hC : C.Pairwise keyLt) : B = C := by
  refine perm_unique (le := fun x y => ltS y x = false) hp hs (hC.imp fun h => ltS_asymm _ _ ((ltS_iff _ _).2 h)) ?_
  intro a ha b hb hab hba
  by_cases he : a = b
  · exact he
  · have := pw_all (R := fun a b => keyLt a b \/ keyLt b a) (fun _ _ h => h.symm) (hC.imp fun h => .inl h) a (hp.mem_iff.1 ha) b (hp.mem_iff.1 hb) he
    rcases this with h | h
    · rw [(ltS_iff _ _).2 h] at hba; cases hba
    · rw [(ltS_iff _ _).2 h] at hab; cases hab
theorem encP_ent (m : List (PK × Int)) : encP m = (stratsOf m).map entS := by
  simp [stratsOf, List.map_map, Function.comp_def, keyL]
theorem t_strata0 (hcl : ClosureOk 39) (l : List Clause) (hl : SmallL l) (fuel : Nat) (R : Option (List (PK × Int))) (hR : (checkB l).1 = 0 -> levN l fuel (l.foldl initCl []) = some R) (C : List Strat) (hC : ∀ m, R = some m -> m.length <= 2 ^ 20 /\ C.Perm (stratsOf m) /\ C.Pairwise keyLt) (H : LHeap) {kv kp : HP}
    (h0 : (checkB l).1 ≠ 0 -> ∀ n, H.next <= n -> kv (.tup [Nl, .int (checkB l).1]) ⟨H.objs, n⟩)
    (h1 : (checkB l).1 = 0 -> R = none -> ∀ n, H.next <= n -> kv (.tup [Nl, .int 81]) ⟨H.objs, n⟩)
    (h2 : (checkB l).1 = 0 -> ∀ m, R = some m -> C = [] -> ∀ o n, H.next <= o -> o < n -> kv (.tup [Nl, .int 0]) ⟨(o, .map (encP m)) :: H.objs, n⟩)
    (h3 : (checkB l).1 = 0 -> ∀ m, R = some m -> C ≠ [] -> ∀ o M n, H.next <= o -> o < M -> M < n -> kv (.tup [.asl M 0 C.length, .int 0]) ⟨(M, arrS C) :: (o, .map (encP m)) :: H.objs, n⟩) :
    cP E0 F0 13 [clausesL l] H kv kp := by
  refine cP_of_lP c13 (Nat.le_of_ble_eq_true rfl) fun hH => ?_
  rw [body17]
  simp (disch := omega)
  refine lP_seq (lP_of_run ?_)
  simp (disch := omega) [p17, b13]
  refine lP_seq (lP_of_run ?_)
  simp (disch := omega) [p17, b13]
  refine t_checked l hl fuel R hR H (fun hc n hn => ?_) (fun hc hRn n hn => ?_) (fun hc m hRm o n hn hn2 => ?_)
  · simp (disch := omega)
    refine lP_seq (lP_of_run ?_)
    simp (disch := omega) [p17, b13, hc, resP_two]
    exact keep (h0 hc n hn)
  · simp (disch := omega)
    refine lP_seq (lP_of_run ?_)
    simp (disch := omega) [p17, b13, resP_two]
    exact keep (h1 hc hRn n hn)
  simp (disch := omega)
  refine lP_seq (lP_of_run ?_)
  simp (disch := omega) [p17, b13]
  refine lP_seq (lP_of_run ?_)
  simp (disch := omega) [p17, b13]
  obtain ⟨hml, hCp, hCs⟩ := hC m hRm
  have hml2 : (stratsOf m).length <= 2 ^ 20 := by rw [stratsOf_len]; exact hml
  have hlo : look o ((o, LObj.map (encP m)) :: H.objs) = some (.map ((stratsOf m).map entS)) := by rw [<- encP_ent]; simp [look]
  refine lP_weak (t' := FT.node .bot .nil (FT.node .bot (FT.node (.map o) .nil .nil) (FT.node (.sl [] .full) .nil .nil))) (fun l h => by cases h) (by simp [FT.Le, Wk]) (HWk.refl _) (fun h => h) ?_
  refine lP_seq (lP_mono (strLoop o (stratsOf m) _ hlo hml2) ?_)
  rintro e t' H' ⟨rfl, A, hA, hle, hwk, hok⟩
  dsimp only at hwk hok
  show lP E0 F0 (.seq s17 r17) t' H' _
  refine lP_weak (fun l h => by cases h) hle hwk hok ?_
  by_cases hne : A = []
  · subst hne
    have hC0 : C = [] := by
      have := hA.trans hCp.symm
      exact this.nil_eq.symm
    refine lP_seq (lP_of_run ?_)
    simp (disch := omega) [s17, b13, v6, hpS]
    refine t_sortNil _ fun n2 hn2 => ?_
    dsimp only at hn2
    simp (disch := omega)
    show lP E0 F0 r17 _ _ _
    refine lP_of_run ?_
    simp (disch := omega) [r17, b13, resP_two]
    exact keep (h2 hc m hRm hC0 o n2 hn (by omega))
  · rw [v6_ne hne, hpS_ne hne]
    have hlA : A.length <= 2 ^ 20 := by rw [hA.length_eq]; exact hml2
    have hl1 : 0 < A.length := List.length_pos_iff.2 hne
    obtain ⟨M, hM⟩ : ∃ M, n + 2 * A.length = M := ⟨_, rfl⟩
    rw [hM]
    refine lP_seq (lP_of_run ?_)
    simp (disch := omega) [s17, b13]
    refine t_sortG hcl A M _ _ (by simp [look]) (by omega) fun B hB hBs => ?_
    obtain rfl : B = C := sorted_is (hB.trans (hA.trans hCp.symm)) hBs hCs
    simp (disch := omega)
    show lP E0 F0 r17 _ _ _
    refine lP_of_run ?_
    simp (disch := omega) [r17, b13, resP_two]
    have hlen : A.length = B.length := hB.length_eq.symm
    rw [hlen]
    refine keep (h3 hc m hRm (fun e => hne (by subst e; exact hB.nil_eq.symm)) o M (M + 1) hn (by omega) (by omega))
end Go.Abs.Tz
namespace Go.Abs.Tz
open Go Go.Abs Go.Proofs
theorem strats_of_keys {m : List (PK × Int)} (h : (pKeys m).Nodup) : stratsOf m = (pKeys m).map fun k => ⟨k.1, k.2, pVal m k⟩ := by
  unfold stratsOf pKeys
  rw [List.map_map]
  refine List.map_congr_left fun e he => ?_
  simp only [Function.comp_apply]
  rw [pVal_mem h e he]
theorem keyLt_val {x y : Strat} {a b : Int} (h : keyLt x y) : keyLt ⟨x.pred, x.args, a⟩ ⟨y.pred, y.args, b⟩ := h
theorem levels_meet (l : List Clause) (hc : (checkB l).1 = 0) : ∃ fuel R, levN l fuel (l.foldl initCl []) = some R /\
    ((R = none /\ refS l = none) \/ ∃ m q, R = some m /\ refS l = some q /\ m.length <= 2 ^ 20 /\ (stratsOf q).Perm (stratsOf m) /\ (stratsOf q).Pairwise keyLt) := by
  have hg := good_of hc
  have hk : ∀ c ∈ l, ∀ x ∈ c.body, 1 <= x.kind := fun c hc x hx => (hg.kind c hc x hx).1
  obtain ⟨i1, i2, i3, i4⟩ := init_fold l [] fun _ => rfl
  have i5 := hg.initLen
  obtain ⟨m0, hm0⟩ : ∃ m0, l.foldl initCl [] = m0 := ⟨_, rfl⟩
  rw [hm0] at i1 i2 i3 i5 ⊢
  have hV : ∀ c ∈ l, ∀ k ∈ predC c, k ∈ pKeys m0 := fun c hc k hkc => (i3 k).2 (.inr ⟨c, hc, hkc⟩)
  have hz : ∀ k, valN m0 k = 0 := fun k => by unfold valN; rw [i1 k]; rfl
  obtain ⟨R, hR, hE⟩ := cust_levels hV ((pKeys m0).length * (pKeys m0).length) m0 rfl (fun k => by rw [i1 k]; omega) (fun g _ k => by rw [hz k]; omega) (Nat.le_add_left _ _)
  have hW : ∀ c ∈ l, ∀ k ∈ predC c, k ∈ pKeys (predM l) := (pred_ok hk).has
  have hN := nodup_predM l
  have hE2 : EndL l (pKeys (predM l)) (refS l) := ref_levels hW hN (predM l) rfl (pred_ok hk).zero ((predM l).length + 1) (by rw [pKeys_len]; omega)
  refine ⟨_, R, hR, ?_⟩
  rcases same_levels hE hE2 with h | ⟨m, q, h1, h2, h3, h4, h5⟩
  · exact .inl h
  · refine .inr ⟨m, q, h1, h2, ?_, ?_, ?_⟩
    · have : m.length = m0.length := by rw [<- pKeys_len, h3.keys, pKeys_len]
      omega
    · rw [strats_of_keys (m := q) (by rw [h4.keys]; exact hN), strats_of_keys (m := m) (by rw [h3.keys]; exact i2 .nil), h3.keys, h4.keys]
      have hf : (fun k : PK => (⟨k.1, k.2, pVal m k⟩ : Strat)) = fun k => ⟨k.1, k.2, pVal q k⟩ := by
        funext k; rw [h5 k]
      rw [hf]
      refine List.Perm.map _ ?_
      refine (List.perm_ext_iff_of_nodup hN (i2 .nil)).2 fun k => ?_
      rw [mem_predM hk, i3]
      simp [pKeys]
    · rw [strats_of_keys (m := q) (by rw [h4.keys]; exact hN), h4.keys, pKeys_predM, List.map_map]
      have h : (predsL l).Pairwise keyLt := (preds_ok l).ord .nil
      exact List.pairwise_map.2 (h.imp fun hxy => keyLt_val hxy)
theorem t_strata (hcl : ClosureOk 39) (l : List Clause) (hl : SmallL l) : ∃ own, PureT 13 [clausesL l] (.tup [.sl ((rstratL l (refS l)).map stratL) own, .int (rstratE l (refS l))]) := by
  obtain ⟨fuel, R, hR, hm⟩ : ∃ fuel R, ((checkB l).1 = 0 -> levN l fuel (l.foldl initCl []) = some R) /\
    ((checkB l).1 = 0 -> ((R = none /\ refS l = none) \/ ∃ m q, R = some m /\ refS l = some q /\ m.length <= 2 ^ 20 /\ (stratsOf q).Perm (stratsOf m) /\ (stratsOf q).Pairwise keyLt)) := by
    by_cases hc : (checkB l).1 = 0
    · obtain ⟨fuel, R, h1, h2⟩ := levels_meet l hc
      exact ⟨fuel, R, fun _ => h1, fun _ => h2⟩
    · exact ⟨0, none, fun h => absurd h hc, fun h => absurd h hc⟩
  obtain ⟨C, hCdef⟩ : ∃ C, rstratL l (refS l) = C := ⟨_, rfl⟩
  rw [hCdef]
  by_cases hc : (checkB l).1 = 0
  case neg =>
    have hC0 : C = [] := by rw [<- hCdef]; simp [rstratL, hc]
    subst hC0
    refine ⟨.full, fun H kv kp hk => ?_⟩
    exact t_strata0 hcl l hl fuel none (fun h => absurd h hc) [] (fun m h => by cases h) H (fun _ n hn => by
      have := hk n hn
      rw [show rstratE l (refS l) = (checkB l).1 by simp [rstratE, hc]] at this
      exact this) (fun h => absurd h hc) (fun h => absurd h hc) (fun h => absurd h hc)
  rcases hm hc with ⟨rfl, hn⟩ | ⟨m, q, rfl, hq, hml, hp, hs⟩
  · have hC0 : C = [] := by rw [<- hCdef, hn]; simp [rstratL, hc, stratsOf]
    subst hC0
    refine ⟨.full, fun H kv kp hk => ?_⟩
    exact t_strata0 hcl l hl fuel none hR [] (fun m h => by cases h) H (fun h => absurd hc h) (fun _ _ n hn' => by
      have := hk n hn'
      rw [show rstratE l (refS l) = 81 by simp [rstratE, hc, hn]] at this
      exact this) (fun _ m h => by cases h) (fun _ m h => by cases h)
  · have hCq : C = stratsOf q := by rw [<- hCdef, hq]; simp [rstratL, hc]
    have hE0 : rstratE l (refS l) = 0 := by simp [rstratE, hc, hq]
    rw [hE0]
    rw [<- hCq] at hp hs
    refine ⟨if C = [] then .full else .no, fun H kv kp hk hH => ?_⟩
    have h1 := t_strata0 (kv := fun v H' => (C = [] /\ v = .tup [Nl, .int 0] /\ ∃ o n, H.next <= o /\ o < n /\ H' = ⟨(o, .map (encP m)) :: H.objs, n⟩) \/ ∃ o M n, C ≠ [] /\ H.next <= o /\ o < M /\ M < n /\ v = .tup [.asl M 0 C.length, .int 0] /\ H' = ⟨(M, arrS C) :: (o, .map (encP m)) :: H.objs, n⟩) (kp := fun _ _ => False)
      hcl l hl fuel (some m) hR C (fun m' h => by cases h; exact ⟨hml, hp, hs⟩) H (fun h => absurd hc h) (fun _ h => by cases h) (fun _ m' h hC0 o n ho hn => by cases h; exact .inl ⟨hC0, rfl, o, n, ho, hn, rfl⟩)
      (fun _ m' h hC0 o M n ho hM hn => by cases h; exact .inr ⟨o, M, n, hC0, ho, hM, hn, rfl, rfl⟩) hH
    refine .frz (fun v _ => match v with | .tup [.asl o _ _, _] => [o] | _ => []) h1 (fun v H' hT => ?_) (fun v H' hT => ?_)
    · rcases hT with ⟨u, H2, he, hok, hT⟩ | ⟨u, H2, he, hok, hf⟩
      · cases he
        rcases hT with ⟨hC0, rfl, o, n, ho, hn, rfl⟩ | ⟨o, M, n, hC0, ho, hM, hn, rfl, rfl⟩
        · refine ⟨⟨H.objs, n⟩, ⟨Nat.le_refl _, fun i x hx => ?_⟩, .inl ⟨_, _, rfl, Desc.mono hH (by dsimp only; omega), ?_⟩⟩
          · have := hH.look hx
            have e1 : look i (delsO [] ((o, .map (encP m)) :: H.objs)) = look i ((o, .map (encP m)) :: H.objs) := look_delsO (L := []) rfl
            show look i (delsO [] ((o, .map (encP m)) :: H.objs)) = some x
            rw [e1, look_ne (by omega)]
            exact hx
          · have := hk n (by omega)
            subst hC0
            exact this
        · refine ⟨⟨H.objs, n⟩, ⟨Nat.le_refl _, fun i x hx => ?_⟩, .inl ⟨_, _, rfl, Desc.mono hH (by dsimp only; omega), ?_⟩⟩
          · have := hH.look hx
            have hne : ¬ i = M := by omega
            have hno : ¬ i = o := by omega
            have e1 : look i (delsO [M] ((M, arrS C) :: (o, .map (encP m)) :: H.objs)) = look i ((M, arrS C) :: (o, .map (encP m)) :: H.objs) := look_delsO (by simp [hne])
            show look i (delsO [M] ((M, arrS C) :: (o, .map (encP m)) :: H.objs)) = some x
            rw [e1, look_ne hne, look_ne hno]
            exact hx
          · have := hk n (by omega)
            rw [if_neg hC0] at this
            have e : frzA ⟨(M, arrS C) :: (o, .map (encP m)) :: H.objs, n⟩ [M] M 0 C.length = strataL C := frzS (by simp [look])
            simpa [frzV, frzL, e] using this
      · cases he
    · rcases hT with ⟨u, H2, he, hok, hT⟩ | ⟨u, H2, he, hok, hf⟩
      · cases he
      · exact hf.elim
end Go.Abs.Tz
namespace Go.Abs.Tz
open Go Go.Abs Go.Proofs
structure GrowsIn (Z W U : List PK) : Prop where
  pre : ∃ T, U = W ++ T
  nd : W.Nodup -> U.Nodup
  sub : W ⊆ Z -> U ⊆ Z
theorem GrowsIn.refl (Z W : List PK) : GrowsIn Z W W := ⟨⟨[], by simp⟩, id, id⟩
theorem GrowsIn.trans {Z W U X : List PK} (h : GrowsIn Z W U) (k : GrowsIn Z U X) : GrowsIn Z W X := by
  obtain ⟨⟨T, rfl⟩, h2, h3⟩ := h
  obtain ⟨⟨T', rfl⟩, k2, k3⟩ := k
  exact ⟨⟨T ++ T', by rw [List.append_assoc]⟩, fun h => k2 (h2 h), fun h => k3 (h3 h)⟩
theorem grows_add {Z : List PK} {k : PK} (hk : k ∈ Z) (W : List PK) : GrowsIn Z W (addP k W) := by
  unfold addP
  by_cases h : hasP k W = true
  · rw [if_pos h]; exact GrowsIn.refl _ _
  · rw [if_neg h]
    have hm : k ∉ W := fun e => h (hasP_iff.2 e)
    refine ⟨⟨[k], rfl⟩, fun hn => ?_, fun hs => ?_⟩
    · rw [List.nodup_append]
      refine ⟨hn, by simp, fun a ha b hb => ?_⟩
      rw [List.mem_singleton] at hb
      subst hb
      rintro rfl
      exact hm ha
    · intro x hx
      rcases List.mem_append.1 hx with hx | hx
      · exact hs hx
      · rw [List.mem_singleton] at hx; subst hx; exact hk
theorem grows_body {Z : List PK} : ∀ (b : List Lit) (W : List PK), (∀ x ∈ b, (x.kind = 1 \/ x.kind = 2) -> ofA x.atom ∈ Z) -> GrowsIn Z W (b.foldl wLit W)
  | [], W, _ => GrowsIn.refl _ _
  | x :: b, W, h => by
    refine GrowsIn.trans (U := wLit W x) ?_ (grows_body b _ fun y hy => h y (List.mem_cons_of_mem _ hy))
    unfold wLit
    by_cases hk : (decide (x.kind = 1) || decide (x.kind = 2)) = true
    · rw [if_pos hk]
      exact grows_add (h x List.mem_cons_self (by simpa using hk)) W
    · rw [if_neg hk]; exact GrowsIn.refl _ _
theorem grows_round {Z : List PK} : ∀ (l : List Clause) (W : List PK), (∀ c ∈ l, ∀ k ∈ predC c, k ∈ Z) -> GrowsIn Z W (l.foldl wStepC W)
  | [], W, _ => GrowsIn.refl _ _
  | c :: l, W, h => by
    refine GrowsIn.trans (U := wStepC W c) ?_ (grows_round l _ fun d hd => h d (List.mem_cons_of_mem _ hd))
    unfold wStepC
    by_cases hk : hasP (ofA c.head) W = true
    · rw [if_pos hk]
      exact grows_body c.body W fun x hx hxk => h c List.mem_cons_self _ (List.mem_cons_of_mem _ (List.mem_map.2 ⟨x, List.mem_filter.2 ⟨hx, by simpa using hxk⟩, rfl⟩))
    · rw [if_neg hk]; exact GrowsIn.refl _ _
theorem rel_meet (l : List Clause) (Z : List PK) (hZ : ∀ c ∈ l, ∀ k ∈ predC c, k ∈ Z) : ∀ (d : Nat) (W : List PK) (n : Nat), W.Nodup -> W ⊆ Z -> Z.length <= W.length + d -> (n = W.length -> wRound l W = W) -> relW l (d + 2) n W = some (iterW l d W)
  | d, W, n, hn, hs, hd, hf => by
    have hit : ∀ d, wRound l W = W -> iterW l d W = W := by
      intro d h
      induction d with
      | zero => rfl
      | succ d ih => unfold iterW; rw [h]; exact ih
    by_cases he : n = W.length
    · show (if n = W.length then some W else _) = _
      rw [if_pos he, hit d (hf he)]
    · have e1 : relW l (d + 2) n W = relW l (d + 1) W.length (wRound l W) := by
        show (if n = W.length then some W else _) = _
        rw [if_neg he]
      rw [e1]
      have hg := grows_round (Z := Z) l W hZ
      change GrowsIn Z W (wRound l W) at hg
      by_cases hw : wRound l W = W
      · rw [hw, hit d hw]
        show (if W.length = W.length then some W else _) = _
        rw [if_pos rfl]
      · have hlt : W.length < (wRound l W).length := by
          obtain ⟨T, hT⟩ := hg.pre
          rw [hT, List.length_append]
          have : T ≠ [] := by
            rintro rfl
            rw [List.append_nil] at hT
            exact hw hT
          have := List.length_pos_iff.2 this
          omega
        have hle := List.Nodup.length_le_of_subset (hg.nd hn) (hg.sub hs)
        match d with
        | 0 => omega
        | d + 1 =>
          exact rel_meet l Z hZ d (wRound l W) W.length (hg.nd hn) (hg.sub hs) (by omega) (fun e => by omega)
theorem ref_keys {l : List Clause} (hc : (checkB l).1 = 0) {m : List (PK × Int)} (hm : refS l = some m) : pKeys m = pKeys (predM l) := by
  have hg := good_of hc
  have hk : ∀ c ∈ l, ∀ x ∈ c.body, 1 <= x.kind := fun c hc x hx => (hg.kind c hc x hx).1
  have hE2 : EndL l (pKeys (predM l)) (refS l) := ref_levels (pred_ok hk).has (nodup_predM l) (predM l) rfl (pred_ok hk).zero ((predM l).length + 1) (by rw [pKeys_len]; omega)
  rw [hm] at hE2
  exact (show LeastL l (pKeys (predM l)) m from hE2).keys
abbrev relRow (l : List Clause) (k : PK) : List Int := relI (iterW l (predM l).length [k]) l 0
theorem t_crelevant (l : List Clause) (hl : SmallL l) (pred : ByteArray) (args : Int) (H : LHeap) {kv kp : HP}
    (h0 : rstratE l (refS l) ≠ 0 -> ∀ n, H.next <= n -> kv (.tup [Nl, .int (rstratE l (refS l))]) ⟨H.objs, n⟩)
    (h2 : rstratE l (refS l) = 0 -> ∀ own n, H.next <= n -> kv (.tup [.sl (intsL (relRow l (pred, args))) own, .int 0]) ⟨H.objs, n⟩) : cP E0 F0 15 [clausesL l, .str pred, .int args] H kv kp := by
  by_cases hc : (checkB l).1 = 0
  case neg =>
    have hE : rstratE l (refS l) = (checkB l).1 := by simp [rstratE, hc]
    rw [hE] at h0
    have hW := rel_meet l ((pred, args) :: l.flatMap predC) (fun c hc k hk => List.mem_cons_of_mem _ (List.mem_flatMap.2 ⟨c, hc, hk⟩)) (l.flatMap predC).length [(pred, args)] 0 (by simp) (by simp) (by simp; omega) (by simp)
    exact t_relevant l hl pred args 0 none (fun h => absurd h hc) _ _ hW H (fun _ n hn => h0 hc n hn) (fun h => absurd h hc) (fun h => absurd h hc)
  have hg := good_of hc
  have hk : ∀ c ∈ l, ∀ x ∈ c.body, 1 <= x.kind := fun c hc x hx => (hg.kind c hc x hx).1
  have hW := rel_meet l ((pred, args) :: pKeys (predM l)) (fun c hc k hkc => List.mem_cons_of_mem _ ((mem_predM hk).2 ⟨c, hc, hkc⟩)) (predM l).length [(pred, args)] 0 (by simp) (by simp) (by simp [pKeys]; omega) (by simp)
  obtain ⟨fuel, R, hR, hm⟩ := levels_meet l hc
  refine t_relevant l hl pred args fuel R (fun _ => hR) _ _ hW H (fun h => absurd hc h) (fun _ hRn n hn => ?_) (fun _ hRn own n hn => ?_)
  · rcases hm with ⟨_, h⟩ | ⟨m, q, h, _⟩
    · have hE : rstratE l (refS l) = 81 := by simp [rstratE, hc, h]
      rw [hE] at h0
      exact h0 (by omega) n hn
    · rw [hRn] at h; cases h
  · rcases hm with ⟨h, _⟩ | ⟨m, q, _, h, _⟩
    · exact absurd h hRn
    · have hE : rstratE l (refS l) = 0 := by simp [rstratE, hc, h]
      exact h2 hE own n hn
theorem t_refrel (l : List Clause) (hl : SmallL l) (pred : ByteArray) (args : Int) (H : LHeap) {kv kp : HP}
    (h0 : rstratE l (refS l) ≠ 0 -> ∀ n, H.next <= n -> kv (.agg [Nl, .int (rstratE l (refS l))]) ⟨H.objs, n⟩)
    (h2 : rstratE l (refS l) = 0 -> ∀ own n, H.next <= n -> kv (.agg [.sl (intsL (relRow l (pred, args))) own, .int 0]) ⟨H.objs, n⟩) : cP E0 F0 16 [clausesL l, .str pred, .int args] H kv kp :=
  t_rrelevant l hl pred args (fun hc _ hm => ref_keys hc hm) H h0 h2
end Go.Abs.Tz
namespace Go.Abs.Tz
open Go Go.Abs Go.Proofs
set_option maxRecDepth 20000
set_option linter.unusedSimpArgs false
attribute [local simp ↓] getP_nil getP_node setP_nil setP_node oneP_eq vP_map vP_some vP_none vP_bind eP_some bP_true bP_false gP_yes gP_tf gP_ft gP_tup runP_skip runP_ops runP_drw runP_seq runP_cond runP_blk runP_loop runP_exit runP_ret seqK_n seqK_r seqK_e seqK_p blkK_n blkK_r blkK_e blkK_p loopK_n loopK_r loopK_e loopK_p finK_n finK_r finK_p resP_one resP_two resP_three resP_nil resP_c nxP_nil argsP_nil argsP_cons evP_t evP_c evP_g evsP_nil evsP_cons clP_fn pnP_i opsP_nil opsP_d opsP_x opsP_gt opsP_gf opP_cf opP_cl opP_pn opP_nx valP_mv valP_pk valP_eq valP_bn valP_nt valP_ld valP_fa valP_fd valP_ia valP_ix valP_ln valP_srn valP_srl valP_srh valP_srb valP_cv valP_mi valP_mf valP_xt valP_bs valP_bd valP_nc valP_mn valP_lk valP_ta opP_mv opP_pk opP_eq opP_bn opP_nt opP_ld opP_fa opP_fd opP_ia opP_ix opP_ln opP_sr opP_cv opP_mi opP_mf opP_xt opP_bs opP_bd opP_nc opP_mn opP_lk opP_ta opP_al opP_bx opP_st opP_ap opP_mk opP_nb opP_mu opP_rg opP_en pendP_nil pendP_d pendP_g drwP_nil drwP_d drwP_x drwP_gt drwP_gf look_self natOf_nat
attribute [local simp] faL fdL iaL ixL loadL partL lenL eqK eqL natOf eqB_s eqB_i eqB_b bn_add bn_sub bn_lss bn_leq bn_gtr bn_geq bn_adds bn_lsss bn_gtrs bn_leqs bn_geqs sliceL LV.cells LV.whole look_self put_self putO_self put_eq stL fillL termC dopP LHeap.alloc oneI oneS oneB nth0 nth1 nth2 nth3 nth4 nth5 nth6 nth7 nth8 nth9 look_ne putO_ne
theorem short_ok3 {c : Clause} (h : clShort c = true) : Clause.ok3 c := by
  unfold clShort at h
  simp only [Bool.and_eq_true, decide_eq_true_iff, List.all_eq_true] at h
  obtain ⟨h1, h2, h3, h4⟩ := h
  have hb : ∀ x ∈ c.body, x.atom.ok /\ x.a.s.size <= 40 /\ x.b.s.size <= 40 := fun x hx => by
    have := h1 x hx
    unfold litShort at this
    simp only [Bool.and_eq_true, decide_eq_true_iff] at this
    exact ⟨Atom.small_ok this.1, this.2.1, this.2.2⟩
  exact ⟨⟨Atom.small_ok h2, by omega, fun x hx => ⟨(hb x hx).1, by have := (hb x hx).2.1; unfold Term.ok; omega, by have := (hb x hx).2.2; unfold Term.ok; omega⟩⟩, ⟨Atom.small_ok h2, by omega, fun x hx => (hb x hx).1⟩⟩
theorem strat_len (l : List Clause) : (rstratL l (refS l)).length < 2 ^ 60 := by
  unfold rstratL
  by_cases hc : (checkB l).1 = 0
  · rw [if_neg (by omega)]
    obtain ⟨_, R, _, h | ⟨m, q, _, h2, h3, h4, _⟩⟩ := levels_meet l hc
    · rw [h.2]; simp [stratsOf]
    · rw [h2]
      have := h4.length_eq
      rw [stratsOf_len m] at this
      show (stratsOf q).length < _
      omega
  · rw [if_pos hc]; simp
theorem t_law3 (hcl : ClosureOk 39) (hs : PureT 6 [] (.bool true)) (l : List Clause) (a : Atom) (n : Int) (hb : ∀ c ∈ l, c.body.length < 2 ^ 63) :
    PureT 3 [clausesL l, atomL a, .int n] (.bool true) := by
  refine PureT.of c3 fun H hH => ⟨Nat.le_of_ble_eq_true rfl, ?_⟩
  simp (disch := omega) [b3]
  refine (t_shortClauses l hb).go fun n1 hn1 => ?_
  cases h1 : shortB l
  · simp (disch := omega)
    refine hs.go fun n2 hn2 => ?_
    simp (disch := omega)
    exact doneK hH (by simp [])
  simp (disch := omega)
  refine (t_short a).go fun n2 hn2 => ?_
  cases h2 : a.small
  · simp (disch := omega)
    refine hs.go fun n3 hn3 => ?_
    simp (disch := omega)
    exact doneK hH (by simp [])
  have ha := Atom.small_ok h2
  have hok : l.length <= 40 -> ∀ c ∈ l, Clause.ok3 c := by
    intro hl c hc
    unfold shortB at h1
    rw [if_neg (by omega)] at h1
    split at h1
    · rename_i hall
      exact short_ok3 (List.all_eq_true.1 hall c hc)
    · cases h1
  have hsm : SmallL l := ⟨hok⟩
  obtain ⟨o1, hst⟩ := t_strata hcl l hsm
  obtain ⟨o2, hrst⟩ := t_rstratified l hsm
  simp (disch := omega)
  refine (t_Print l hok).go fun n3 hn3 => ?_
  simp (disch := omega)
  refine (t_rPrint l hok).go fun n4 hn4 => ?_
  simp (disch := omega)
  refine (t_PrintAtom a ha).go fun n5 hn5 => ?_
  simp (disch := omega)
  refine (t_rPrintAtom a ha).go fun n6 hn6 => ?_
  simp (disch := omega)
  refine (t_Check l hok).go fun n7 hn7 => ?_
  simp (disch := omega)
  refine (t_rCheck l hok).go fun n8 hn8 => ?_
  rw [check_same]
  simp (disch := omega)
  refine hst.go fun n9 hn9 => ?_
  simp (disch := omega)
  refine hrst.go fun n10 hn10 => ?_
  simp (disch := omega)
  have hS := strat_len l
  refine t_crelevant l hsm a.pred n _ (fun hE m hm => ?_) (fun hE own m hm => ?_)
  · dsimp only at hm
    simp (disch := omega)
    refine t_refrel l hsm a.pred n _ (fun _ m2 hm2 => ?_) (fun h => absurd h hE)
    dsimp only at hm2
    simp (disch := omega)
    refine hs.go fun m3 hm3 => ?_
    simp (disch := omega) [eqBA_self]
    refine (t_sameStrata _ _ _ hS).go fun m4 hm4 => ?_
    simp (disch := omega)
    refine (t_sameInts [] .full .full (by simp)).go fun m5 hm5 => ?_
    simp (disch := omega)
    exact doneK hH (by simp [])
  · dsimp only at hm
    simp (disch := omega)
    refine t_refrel l hsm a.pred n _ (fun h => absurd hE h) (fun _ own2 m2 hm2 => ?_)
    dsimp only at hm2
    simp (disch := omega)
    refine hs.go fun m3 hm3 => ?_
    simp (disch := omega) [eqBA_self]
    refine (t_sameStrata _ _ _ hS).go fun m4 hm4 => ?_
    simp (disch := omega)
    have hc0 : (checkB l).1 = 0 := Classical.byContradiction fun h => by
      unfold rstratE at hE
      rw [if_pos h] at hE
      exact h hE
    have hll : l.length < 2 ^ 60 := by have := (good_of hc0).len; omega
    refine (t_sameInts _ _ _ (Nat.lt_of_le_of_lt (relI_len _ _ _) hll)).go fun m5 hm5 => ?_
    simp (disch := omega)
    exact doneK hH (by simp [])
end Go.Abs.Tz
