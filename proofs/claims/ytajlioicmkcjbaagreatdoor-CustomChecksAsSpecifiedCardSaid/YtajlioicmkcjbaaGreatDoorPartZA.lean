/- A part of the proof that for every row of clauses, every atom and every number the law CustomChecksAsSpecified returns true, and all read afterwards as before. Conditions: none of its own. -/
import Derived.Test.YtajlioicmkcjbaaGreatDoorRunz
import Derived.Test.YtajlioicmkcjbaaGreatDoorPartY
import Derived.Test.YtajlioicmkcjbaaGreatDoorPartZ
import Derived.Test.YtajlioicmkcjbaaGreatDoorRows
import Derived.ProofKit
import Derived.Deep.Slices
import Derived.Deep.Strs
import Derived.Lib.LaidTab
import Derived.LaidSub
namespace Go.Abs.Tz
set_option maxRecDepth 20000
open Go Go.Abs Go.Proofs Go.ChangeShapes Go.WideShapes Go.RowKit Go.Proofs.YtajlioicmkcjbaaGreatDoor
theorem closureOk : ClosureOk 39 := fun x y W => _root_.Go.Proofs.Tz.closure x y W
noncomputable def gOf (W : World) : Ghost := ⟨fun b => if b < W.heap.size then some true else none, 0, fun _ => 0, fun _ => (0, 0), fun _ => none, fun _ _ => .free, E0.rc⟩
theorem gOf_cl {W : World} {b x : Nat} {v : Value} (h : W.cell? (at_ b x) = some v) : (gOf W).Cl b x := by
  left
  have : b < W.heap.size := by
    rcases Nat.lt_or_ge b W.heap.size with h' | h'
    · exact h'
    · unfold World.cell? at h
      rw [show (at_ b x).block = b from rfl, Array.getElem?_eq_none h'] at h
      cases h
  simp [gOf, this]
theorem gOf_inv (W : World) (m : Nat) : Inv (gOf W) W ⟨[], m⟩ := by
  refine ⟨Nat.zero_le _, fun b hb => ?_, fun _ _ _ => rfl, fun _ _ _ => rfl, fun o x hx => by simp [look] at hx⟩
  simp only [gOf] at hb
  split at hb
  · assumption
  · cases hb
abbrev powName : String := (Rows.customChecksAsSpecifiedRow.laid.map Prod.fst)[2]!
theorem pow_lies {W : World} (h : laidMetH Tryz.prog Rows.customChecksAsSpecifiedRow.laid W) : ∃ t fz, W.heap[(3 : Nat)]? = some (.cells (Lib.pow10Tab.map fun z => Value.int .u64 z).toArray t fz) := by
  have h1 := laidMetH.filter (fun x => x.1 == powName) h
  have e : Rows.customChecksAsSpecifiedRow.laid.filter (fun x => x.1 == powName) = [(powName, Lib.tabData .u64 Lib.pow10Tab)] := rfl
  rw [e] at h1
  change laidMet Tryz.prog [(powName, Lib.tabData .u64 Lib.pow10Tab)] W at h1
  have h2 := Lib.tabIs_of_head (g := 3) (t := 227) (e := 173) (n := 20) (by kernel_rfl) (by kernel_rfl) (by kernel_rfl) (by kernel_rfl) (by kernel_rfl) (by kernel_rfl) h1
  unfold Lib.TabIs World.var? at h2
  rw [show Tryz.prog.globalNamed powName = some 3 by kernel_rfl] at h2
  simp only [Option.bind_some] at h2
  split at h2
  · rename_i cs t fz hh
    cases h2
    exact ⟨t, fz, hh⟩
  · cases h2
theorem gOf_env (W : World) (h : laidMetH Tryz.prog Rows.customChecksAsSpecifiedRow.laid W) : EnvR E0 (gOf W) W := by
  refine ⟨fun g => .bot _, rfl, fun p hp => ?_⟩
  obtain ⟨t, fz, hh⟩ := pow_lies h
  have hp' : p = (3, (Lib.pow10Tab.map fun z => Value.int .u64 z).toArray) := by simpa [E0, powT] using hp
  subst hp'
  have hlt : 3 < W.heap.size := (Array.getElem?_eq_some_iff.1 hh).1
  exact ⟨by simp [gOf, hlt], t, fz, hh⟩
theorem add_add {a : Addr} (h : a.spot = none) (x y : Nat) : (a.add x).add y = at_ a.block (a.off + x + y) := by
  obtain ⟨b, o, s⟩ := a
  simp only at h
  subst h
  unfold Addr.add
  by_cases hx : x = 0 <;> by_cases hy : y = 0 <;> simp [hx, hy, Nat.add_assoc]
theorem z9 : Tryz.prog.cellsOf 9 = 1 := by kernel_rfl
theorem z3 : Tryz.prog.cellsOf 3 = 1 := by kernel_rfl
theorem z22 : Tryz.prog.cellsOf 22 = 1 := by kernel_rfl
theorem z23 : Tryz.prog.cellsOf 23 = 1 := by kernel_rfl
theorem z50 : Tryz.prog.cellsOf 50 = 1 := by kernel_rfl
theorem z25 : Tryz.prog.cellsOf 25 = 2 := by kernel_rfl
theorem z54 : Tryz.prog.cellsOf 54 = 3 := by kernel_rfl
theorem z56 : Tryz.prog.cellsOf 56 = 9 := by kernel_rfl
theorem z52 : Tryz.prog.cellsOf 52 = 3 := by kernel_rfl
def RowR (W : World) (cl : List LV) (cs : List Value) : Prop := cs.length = cl.length /\ ∀ (j : Nat) (c : LV), cl[j]? = some c -> ∃ v, cs[j]? = some v /\ VR (gOf W) W c v /\ v.oneCell' = true
theorem RowR.nil (W : World) : RowR W [] [] := ⟨rfl, fun j c h => by simp at h⟩
theorem RowR.cons {W : World} {c : LV} {v : Value} {cl : List LV} {cs : List Value} (h : VR (gOf W) W c v) (h1 : v.oneCell' = true) (hr : RowR W cl cs) : RowR W (c :: cl) (v :: cs) :=
  ⟨by simp [hr.1], fun j x hx => by
    cases j with
    | zero => simp at hx; subst hx; exact ⟨v, rfl, h, h1⟩
    | succ j => simp at hx; simpa using hr.2 j x hx⟩
theorem RowR.append {W : World} {cl dl : List LV} {cs ds : List Value} (h : RowR W cl cs) (k : RowR W dl ds) : RowR W (cl ++ dl) (cs ++ ds) := by
  refine ⟨by simp [h.1, k.1], fun j c hc => ?_⟩
  rcases Nat.lt_or_ge j cl.length with hj | hj
  · rw [List.getElem?_append_left hj] at hc
    rw [List.getElem?_append_left (by rw [h.1]; exact hj)]
    exact h.2 j c hc
  · rw [List.getElem?_append_right hj] at hc
    rw [List.getElem?_append_right (by rw [h.1]; exact hj), h.1]
    exact k.2 _ c hc
theorem RowR.agg {W : World} {cl : List LV} {cs : List Value} (h : RowR W cl cs) : VR (gOf W) W (.agg cl) (.agg cs.toArray) := by
  refine .agg (by simp [h.1]) (fun i c hc => ?_) (fun i hi => ?_)
  · obtain ⟨v, h1, h2, _⟩ := h.2 i c hc
    have : cs.toArray.getD i undef = v := by simp [Array.getD_eq_getD_getElem?, h1]
    rw [this]; exact h2
  · obtain ⟨v, h1, _, h3⟩ := h.2 i _ (List.getElem?_eq_getElem hi)
    have : cs.toArray.getD i undef = v := by simp [Array.getD_eq_getD_getElem?, h1]
    rw [this]; exact h3
section
variable {H : Type} {enc : TypeId × Value -> H} {W : World} {hd : Bool}
theorem fld {m : Nat} {cs : List Value} {f : Field} {t : TypeId} {off c : Nat} {r : Option (DataW H × List MemPlace)} (h : DataW.trod enc Tryz.prog W 0 (fun _ => true) hd m f.type ((cs.drop f.offset).take (Tryz.prog.cellsOf f.type)) = r)
    (h1 : f.type = t) (h2 : f.offset = off) (h3 : Tryz.prog.cellsOf t = c) : DataW.trod enc Tryz.prog W 0 (fun _ => true) hd m t ((cs.drop off).take c) = r := by
  subst h1; subst h2; subst h3; exact h
theorem open_row {α : Type} (ec : α -> List LV) {S E : TypeId} {k : Nat} (hu : Tryz.prog.underlying S = some (.slice E)) (hk : Tryz.prog.cellsOf E = k) (hk0 : 0 < k)
    (hec : ∀ a, (ec a).length = k) (a0 : α)
    (hop : ∀ (n : Nat) (cs : List Value) (x : DataW H × List MemPlace), DataW.trod enc Tryz.prog W 0 (fun _ => true) hd n E cs = some x -> ∃ a : α, RowR W (ec a) cs)
    {n : Nat} {u : Value} {x : DataW H × List MemPlace} (h : DataW.trod enc Tryz.prog W 0 (fun _ => true) hd n S [u] = some x) :
    ∃ l : List α, l.length < 2 ^ 63 /\ VR (gOf W) W (.sl (l.map fun a => .agg (ec a)) .no) u /\ u.oneCell' = true := by
  rcases Deep.open_slice hu h with ⟨e1, _⟩ | ⟨a, len, cap, m, n', D, Pl, e1, _, hlc, hmax, hm, _, hel⟩
  · simp only [List.cons.injEq, and_true] at e1
    subst e1
    exact ⟨[], by simp, .sln trivial, rfl⟩
  · simp only [List.cons.injEq, and_true] at e1
    subst e1
    simp only [if_true] at hm
    have hm := hm.symm
    subst hm
    have hmax2 : cap < 2 ^ 63 := by unfold maxLen at hmax; omega
    by_cases hc0 : cap = 0
    · subst hc0
      obtain rfl : len = 0 := by omega
      exact ⟨[], by simp, .sle a, rfl⟩
    have hspot : a.spot = none := by
      obtain ⟨cs', q1, _⟩ := hel 0 (by omega)
      rw [hk] at q1
      obtain ⟨_, q2, q3⟩ := World.cells?_some q1
      have := q3 0 hk0
      rw [List.getElem?_eq_getElem (by omega)] at this
      have := World.cell?_spot this
      simpa [Addr.add] using this
    have ht : ∀ i, ∃ t : α, i < len -> ∃ cs, RowR W (ec t) cs /\ ∀ j, j < k -> W.cell? (at_ a.block (a.off + i * k + j)) = cs[j]? := by
      intro i
      by_cases hi : i < len
      · obtain ⟨cs', q1, q2⟩ := hel i (by omega)
        rw [hk] at q1
        obtain ⟨_, _, q3⟩ := World.cells?_some q1
        obtain ⟨t, ht⟩ := hop _ _ _ q2
        refine ⟨t, fun _ => ⟨cs', ht, fun j hj => ?_⟩⟩
        rw [<- q3 j hj, add_add hspot]
      · exact ⟨a0, fun h => absurd h hi⟩
    let T : Nat -> α := fun i => Classical.choose (ht i)
    have hT : ∀ i, i < len -> ∃ cs, RowR W (ec (T i)) cs /\ ∀ j, j < k -> W.cell? (at_ a.block (a.off + i * k + j)) = cs[j]? := fun i => Classical.choose_spec (ht i)
    have hX : ∀ i j, ∃ v : Value, i < len -> ∀ c, (ec (T i))[j]? = some c -> W.cell? (at_ a.block (a.off + i * k + j)) = some v /\ VR (gOf W) W c v /\ v.oneCell' = true := by
      intro i j
      by_cases hi : i < len
      · obtain ⟨cs, h1, h2⟩ := hT i hi
        by_cases hj : j < k
        · obtain ⟨v, h3, h4, h5⟩ := h1.2 j _ (List.getElem?_eq_getElem (by rw [hec]; exact hj))
          refine ⟨v, fun _ c hc => ?_⟩
          rw [List.getElem?_eq_getElem (by rw [hec]; exact hj)] at hc
          cases hc
          exact ⟨by rw [h2 j hj, h3], h4, h5⟩
        · exact ⟨undef, fun _ c hc => by rw [List.getElem?_eq_none (by rw [hec]; omega)] at hc; cases hc⟩
      · exact ⟨undef, fun h => absurd h hi⟩
    let V : Nat -> Nat -> Value := fun i j => Classical.choose (hX i j)
    have hV : ∀ i j, i < len -> ∀ c, (ec (T i))[j]? = some c -> W.cell? (at_ a.block (a.off + i * k + j)) = some (V i j) /\ VR (gOf W) W c (V i j) /\ (V i j).oneCell' = true := fun i j => Classical.choose_spec (hX i j)
    have ha : a = at_ a.block a.off := by
      obtain ⟨b, o, sp⟩ := a
      simp only at hspot
      subst hspot
      rfl
    have hget : ∀ (i : Nat) (e : LV), (((List.range len).map T).map fun a => LV.agg (ec a))[i]? = some e -> i < len /\ e = .agg (ec (T i)) := by
      intro i e he
      rw [List.getElem?_map, List.getElem?_map] at he
      cases hr : (List.range len)[i]? with
      | none => rw [hr] at he; cases he
      | some q =>
        rw [hr] at he
        obtain ⟨hlt, rfl⟩ := List.getElem?_eq_some_iff.1 hr
        simp at hlt he
        exact ⟨hlt, he.symm⟩
    refine ⟨(List.range len).map T, by simp; omega, ?_, rfl⟩
    have hlen : (((List.range len).map T).map fun a => LV.agg (ec a)).length = len := by simp
    have hR := VR.sl (G := gOf W) (w := W) (es := ((List.range len).map T).map fun a => LV.agg (ec a)) (own := .no) (b := a.block) (off := a.off) (sz := k) (cap := cap) (xs := V) (by rw [hlen]; exact hlc)
      (fun i e he => by obtain ⟨_, rfl⟩ := hget i e he; exact hec _)
      (fun i e j c he hc => by
        obtain ⟨hi, rfl⟩ := hget i e he
        obtain ⟨g1, _, g3⟩ := hV i j hi c hc
        exact ⟨gOf_cl g1, g1, g3⟩)
      (fun i e j c he hc => by
        obtain ⟨hi, rfl⟩ := hget i e he
        exact (hV i j hi c hc).2.1) trivial
    rw [hlen, <- ha] at hR
    exact hR
theorem open_int {n : Nat} {u : Value} {x : DataW H × List MemPlace} (h : DataW.trod enc Tryz.prog W 0 (fun _ => true) hd n 3 [u] = some x) : ∃ k : Int, u = .int .i64 k := by
  obtain ⟨k, e, _⟩ := DataW.trod_int Tryz.underlying3 h
  simp only [List.cons.injEq, and_true] at e
  exact ⟨k, e⟩
theorem open_str {n : Nat} {u : Value} {x : DataW H × List MemPlace} (h : DataW.trod enc Tryz.prog W 0 (fun _ => true) hd n 9 [u] = some x) : ∃ s : ByteArray, u = .string s := by
  obtain ⟨s, e, _⟩ := DataW.trod_string Tryz.underlying9 h
  simp only [List.cons.injEq, and_true] at e
  exact ⟨s, e⟩
theorem open_term {n : Nat} {cs : List Value} {x : DataW H × List MemPlace} (h : DataW.trod enc Tryz.prog W 0 (fun _ => true) hd n 54 cs = some x) : ∃ t : Term, RowR W (termC t) cs := by
  obtain ⟨xs, m, _, rfl, hl, hlen, hf⟩ := DataW.trod_struct Tryz.underlying54 h
  rw [z54] at hl
  match xs, hlen, cs, hl with
  | [y0, y1, y2], _, [u0, u1, u2], _ =>
    have h0 := fld (t := 3) (off := 0) (c := 1) (hf 0 _ rfl) rfl rfl z3
    have h1 := fld (t := 3) (off := 1) (c := 1) (hf 1 _ rfl) rfl rfl z3
    have h2 := fld (t := 9) (off := 2) (c := 1) (hf 2 _ rfl) rfl rfl z9
    obtain ⟨k, rfl⟩ := open_int (show DataW.trod enc Tryz.prog W 0 (fun _ => true) hd m 3 [u0] = some y0 from h0)
    obtain ⟨l, rfl⟩ := open_int (show DataW.trod enc Tryz.prog W 0 (fun _ => true) hd m 3 [u1] = some y1 from h1)
    obtain ⟨s, rfl⟩ := open_str (show DataW.trod enc Tryz.prog W 0 (fun _ => true) hd m 9 [u2] = some y2 from h2)
    exact ⟨⟨k, l, s⟩, .cons (.sc _) rfl (.cons (.sc _) rfl (.cons (.sc _) rfl (.nil W)))⟩
theorem open_atom {n : Nat} {cs : List Value} {x : DataW H × List MemPlace} (h : DataW.trod enc Tryz.prog W 0 (fun _ => true) hd n 25 cs = some x) : ∃ a : Atom, RowR W [.str a.pred, argsL a.args] cs := by
  obtain ⟨xs, m, _, rfl, hl, hlen, hf⟩ := DataW.trod_struct Tryz.underlying25 h
  rw [z25] at hl
  match xs, hlen, cs, hl with
  | [y0, y1], _, [u0, u1], _ =>
    have h0 := fld (t := 9) (off := 0) (c := 1) (hf 0 _ rfl) rfl rfl z9
    have h1 := fld (t := 23) (off := 1) (c := 1) (hf 1 _ rfl) rfl rfl z23
    obtain ⟨s, rfl⟩ := open_str (show DataW.trod enc Tryz.prog W 0 (fun _ => true) hd m 9 [u0] = some y0 from h0)
    obtain ⟨ts, _, hv, h1c⟩ := open_row termC Tryz.underlying23 z54 (by omega) (fun _ => rfl) ⟨0, 0, ⟨#[]⟩⟩ (fun n cs x h => open_term h) (show DataW.trod enc Tryz.prog W 0 (fun _ => true) hd m 23 [u1] = some y1 from h1)
    exact ⟨⟨s, ts⟩, .cons (.sc _) rfl (.cons hv h1c (.nil W))⟩
theorem open_lit {n : Nat} {cs : List Value} {x : DataW H × List MemPlace} (h : DataW.trod enc Tryz.prog W 0 (fun _ => true) hd n 56 cs = some x) : ∃ l : Lit, RowR W (litC l) cs := by
  obtain ⟨xs, m, _, rfl, hl, hlen, hf⟩ := DataW.trod_struct Tryz.underlying56 h
  rw [z56] at hl
  match xs, hlen, cs, hl with
  | [y0, y1, y2, y3], _, [u0, u1, u2, u3, u4, u5, u6, u7, u8], _ =>
    have h0 := fld (t := 3) (off := 0) (c := 1) (hf 0 _ rfl) rfl rfl z3
    have h1 := fld (t := 25) (off := 1) (c := 2) (hf 1 _ rfl) rfl rfl z25
    have h2 := fld (t := 54) (off := 3) (c := 3) (hf 2 _ rfl) rfl rfl z54
    have h3 := fld (t := 54) (off := 6) (c := 3) (hf 3 _ rfl) rfl rfl z54
    obtain ⟨k, rfl⟩ := open_int (show DataW.trod enc Tryz.prog W 0 (fun _ => true) hd m 3 [u0] = some y0 from h0)
    obtain ⟨a, ha⟩ := open_atom (show DataW.trod enc Tryz.prog W 0 (fun _ => true) hd m 25 [u1, u2] = some y1 from h1)
    obtain ⟨s, hs⟩ := open_term (show DataW.trod enc Tryz.prog W 0 (fun _ => true) hd m 54 [u3, u4, u5] = some y2 from h2)
    obtain ⟨t, ht⟩ := open_term (show DataW.trod enc Tryz.prog W 0 (fun _ => true) hd m 54 [u6, u7, u8] = some y3 from h3)
    exact ⟨⟨k, a, s, t⟩, .cons (.sc _) rfl (ha.append (hs.append ht))⟩
theorem open_clause {n : Nat} {cs : List Value} {x : DataW H × List MemPlace} (h : DataW.trod enc Tryz.prog W 0 (fun _ => true) hd n 52 cs = some x) : ∃ c : {c : Clause // c.body.length < 2 ^ 63}, RowR W (clauseC c.1) cs := by
  obtain ⟨xs, m, _, rfl, hl, hlen, hf⟩ := DataW.trod_struct Tryz.underlying52 h
  rw [z52] at hl
  match xs, hlen, cs, hl with
  | [y0, y1], _, [u0, u1, u2], _ =>
    have h0 := fld (t := 25) (off := 0) (c := 2) (hf 0 _ rfl) rfl rfl z25
    have h1 := fld (t := 50) (off := 2) (c := 1) (hf 1 _ rfl) rfl rfl z50
    obtain ⟨a, ha⟩ := open_atom (show DataW.trod enc Tryz.prog W 0 (fun _ => true) hd m 25 [u0, u1] = some y0 from h0)
    obtain ⟨b, hb, hv, h1c⟩ := open_row litC Tryz.underlying50 z56 (by omega) (fun _ => rfl) ⟨0, ⟨⟨#[]⟩, []⟩, ⟨0, 0, ⟨#[]⟩⟩, ⟨0, 0, ⟨#[]⟩⟩⟩ (fun n cs x h => open_lit h) (show DataW.trod enc Tryz.prog W 0 (fun _ => true) hd m 50 [u2] = some y1 from h1)
    exact ⟨⟨⟨a, b⟩, hb⟩, ha.append (.cons hv h1c (.nil W))⟩
theorem open_clauses {base : Nat} {v : Value} {d : DataW H} {p : List MemPlace} (h : DataW.Trod enc Tryz.prog W 0 (fun _ => true) hd 22 v d p) (hv : Value.okWide Tryz.prog W .any base 22 v) : ∃ l : List Clause, (∀ c ∈ l, c.body.length < 2 ^ 63) /\ VR (gOf W) W (clausesL l) v := by
  have h1 : v.cells = #[v] := by
    unfold Value.okWide at hv
    rw [Tryz.underlying22] at hv
    simp only at hv
    unfold Cell.okWide at hv
    rw [Tryz.underlying22] at hv
    simp only at hv
    unfold Cell.ok at hv
    rw [Tryz.underlying22] at hv
    cases v <;> first | rfl | exact hv.elim
  obtain ⟨fuel, h⟩ := h
  rw [h1] at h
  obtain ⟨l, _, hV, _⟩ := open_row (fun c : {c : Clause // c.body.length < 2 ^ 63} => clauseC c.1) Tryz.underlying22 z52 (by omega) (fun _ => rfl) ⟨⟨⟨⟨#[]⟩, []⟩, []⟩, by simp⟩ (fun n cs x h => open_clause h) (show DataW.trod enc Tryz.prog W 0 (fun _ => true) hd fuel 22 [v] = some _ from h)
  refine ⟨l.map (·.1), fun c hc => ?_, ?_⟩
  · obtain ⟨q, _, rfl⟩ := List.mem_map.1 hc
    exact q.2
  · have e : (l.map (·.1)).map clauseL = l.map fun c => LV.agg (clauseC c.1) := by rw [List.map_map]; rfl
    show VR (gOf W) W (.sl ((l.map (·.1)).map clauseL) .no) v
    rw [e]
    exact hV
theorem open_atomP {base : Nat} {v : Value} {d : DataW H} {p : List MemPlace} (h : DataW.Trod enc Tryz.prog W 0 (fun _ => true) hd 25 v d p) (hv : Value.okWide Tryz.prog W .any base 25 v) : ∃ a : Atom, VR (gOf W) W (atomL a) v := by
  have hv' : ∃ cs, v = .agg cs := by
    unfold Value.okWide at hv
    rw [Tryz.underlying25] at hv
    obtain ⟨cs, h, _⟩ := hv
    exact ⟨cs, h⟩
  obtain ⟨cs, rfl⟩ := hv'
  obtain ⟨fuel, h⟩ := h
  obtain ⟨a, ha⟩ := open_atom (show DataW.trod enc Tryz.prog W 0 (fun _ => true) hd fuel 25 cs.toList = some _ from h)
  exact ⟨a, by simpa using ha.agg⟩
theorem open_intP {base : Nat} {v : Value} (hv : Value.okWide Tryz.prog W .any base 3 v) : ∃ n : Int, v = .int .i64 n := by
  unfold Value.okWide at hv
  rw [Tryz.underlying3] at hv
  simp only at hv
  unfold Cell.okWide at hv
  rw [Tryz.underlying3] at hv
  simp only at hv
  unfold Cell.ok at hv
  rw [Tryz.underlying3] at hv
  cases v <;> first | (obtain ⟨rfl, _⟩ := hv; exact ⟨_, rfl⟩) | exact hv.elim
end
theorem law_run (l : List Clause) (a : Atom) (n : Int) (hb : ∀ c ∈ l, c.body.length < 2 ^ 63) (W : World) (hW : laidMetH Tryz.prog Rows.customChecksAsSpecifiedRow.laid W) (us : Array Value) (h0 : us.size = 3)
    (h1 : VR (gOf W) W (clausesL l) (us.getD 0 undef)) (h2 : VR (gOf W) W (atomL a) (us.getD 1 undef)) (h3 : us.getD 2 undef = .int .i64 n) :
    Calls Tryz.prog 3 us W fun e W' => e = .returned (.bool true) /\ Below W.heap.size W W' := by
  have hP := t_law3 closureOk t_sanity l a n hb
  have hO := hP ⟨[], 1⟩ (fun v _ => v = .bool true) (fun _ _ => False) (fun _ _ => rfl) trivial
  have hC : CallOk Tryz.prog E0 3 [clausesL l, atomL a, .int n] ⟨[], 1⟩ _ := sound hmixT fnsT hO
  refine (hC.2 (gOf W) W us (gOf_inv W 1) (gOf_env W hW) ⟨h0, fun i x hi => ?_⟩).mono fun e W' hp => ?_
  · match i, hi with
    | 0, hi => simp at hi; subst hi; exact h1
    | 1, hi => simp at hi; subst hi; exact h2
    | 2, hi => simp at hi; subst hi; rw [h3]; exact .sc _
    | i + 3, hi => simp at hi
  · cases e with
    | outgrown => exact hp.elim
    | panicked ch =>
      obtain ⟨_, _, _, _, hT, _⟩ := hp
      rcases hT with ⟨_, _, he, _⟩ | ⟨_, _, he, _, hf⟩
      · cases he
      · exact hf.elim
    | returned u =>
      obtain ⟨v, H', G', hT, hV, _, hx⟩ := hp
      rcases hT with ⟨v', H'', he, _, hv⟩ | ⟨_, _, he, _⟩
      · cases he
        subst hv
        obtain rfl := hV.sc_inv
        exact ⟨rfl, hx.os, hx.tape, hx.output, hx.size, fun k hk => hx.block k (by simp [gOf, hk])⟩
      · cases he
end Go.Abs.Tz
