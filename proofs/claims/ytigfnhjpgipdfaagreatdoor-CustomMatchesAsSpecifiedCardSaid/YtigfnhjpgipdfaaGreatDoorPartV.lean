/- A part of the proof that for every two atoms the law CustomMatchesAsSpecified returns true, and both read afterwards as before. Conditions: none of its own. -/
import Derived.Test.YtigfnhjpgipdfaaGreatDoorRunz
import Derived.Test.YtigfnhjpgipdfaaGreatDoorRows
import Derived.ProofKit
import Derived.Deep.Slices
import Derived.Deep.Strs
/- The law's arguments, opened. -/
namespace Go.Abs.Tz
set_option maxRecDepth 20000
open Go Go.Abs Go.Proofs Go.ChangeShapes Go.WideShapes Go.RowKit
/-- The world as it lies: all that is there is leaned on. -/
noncomputable def gOf (W : World) : Ghost := ⟨fun b => if b < W.heap.size then some true else none, 0, fun _ => 0, fun _ => (0, 0), fun _ => none, fun _ _ => .free, E0.rc⟩
theorem gOf_cl {W : World} {b x : Nat} {v : Value} (h : W.cell? (at_ b x) = some v) : (gOf W).Cl b x := by
  left
  have : b < W.heap.size := by
    rcases Nat.lt_or_ge b W.heap.size with h' | h'
    · exact h'
    · unfold World.cell? at h
      rw [show (at_ b x).block = b from rfl, Array.getElem?_eq_none h'] at h
      cases h
  simp [gOf, this]
theorem gOf_inv (W : World) (m : Nat) : Inv (gOf W) W ⟨[], m⟩ := by
  refine ⟨Nat.zero_le _, fun b hb => ?_, fun _ _ _ => rfl, fun _ _ _ => rfl, fun o x hx => by simp [look] at hx⟩
  simp only [gOf] at hb
  split at hb
  · assumption
  · cases hb
theorem gOf_env (W : World) : EnvR E0 (gOf W) W := ⟨fun g => .bot _, rfl⟩
def tv (t : Term) (j : Nat) : Value := match j with
  | 0 => .int .i64 t.kind
  | 1 => .int .i64 t.n
  | _ => .string t.s
theorem termC_tv (t : Term) (j : Nat) (c : LV) (h : (termC t)[j]? = some c) : j < 3 ∧ c = .sc (tv t j) := by
  match j with
  | 0 => simp at h; subst h; exact ⟨by omega, rfl⟩
  | 1 => simp at h; subst h; exact ⟨by omega, rfl⟩
  | 2 => simp at h; subst h; exact ⟨by omega, rfl⟩
  | j + 3 => simp at h
theorem add_add {a : Addr} (h : a.spot = none) (x y : Nat) : (a.add x).add y = at_ a.block (a.off + x + y) := by
  obtain ⟨b, o, s⟩ := a
  simp only at h
  subst h
  unfold Addr.add
  by_cases hx : x = 0 <;> by_cases hy : y = 0 <;> simp [hx, hy, Nat.add_assoc]
theorem z9 : Tryz.prog.cellsOf 9 = 1 := by kernel_rfl
theorem z3 : Tryz.prog.cellsOf 3 = 1 := by kernel_rfl
theorem z22 : Tryz.prog.cellsOf 22 = 1 := by kernel_rfl
theorem z24 : Tryz.prog.cellsOf 24 = 2 := by kernel_rfl
theorem z30 : Tryz.prog.cellsOf 30 = 3 := by kernel_rfl
theorem ts24 : Tryz.prog.cellTypes Tryz.prog.depth 24 = some [9, 22] := by kernel_rfl
section
variable {H : Type} {enc : TypeId × Value → H} {W : World} {sp : Nat → Bool} {hd : Bool}
theorem open_term {n : Nat} {cs : List Value} {x : DataW H × List MemPlace} (h : DataW.trod enc Tryz.prog W 0 sp hd n 30 cs = some x) : ∃ t : Term, ∀ j, j < 3 → cs[j]? = some (tv t j) := by
  obtain ⟨y0, y1, y2, m, _, hl, h0, h1, h2⟩ := Deep.trod_struct3 Tryz.underlying30 h
  rw [z30] at hl
  simp only [z3, z9] at h0 h1 h2
  match cs, hl with
  | [u0, u1, u2], _ =>
    obtain ⟨k, e0, _⟩ := DataW.trod_int Tryz.underlying3 (show DataW.trod enc Tryz.prog W 0 sp hd m 3 [u0] = some y0 from h0)
    obtain ⟨l, e1, _⟩ := DataW.trod_int Tryz.underlying3 (show DataW.trod enc Tryz.prog W 0 sp hd m 3 [u1] = some y1 from h1)
    obtain ⟨s, e2, _⟩ := DataW.trod_string Tryz.underlying9 (show DataW.trod enc Tryz.prog W 0 sp hd m 9 [u2] = some y2 from h2)
    simp only [List.cons.injEq, and_true] at e0 e1 e2
    subst e0; subst e1; subst e2
    refine ⟨⟨k, l, s⟩, fun j hj => ?_⟩
    match j, hj with
    | 0, _ => rfl
    | 1, _ => rfl
    | 2, _ => rfl
theorem open_atom {base : Nat} {v : Value} {d : DataW H} {p : List MemPlace} (h : DataW.Trod enc Tryz.prog W 0 sp hd 24 v d p) (hv : Value.okWide Tryz.prog W .any base 24 v) : ∃ a : Atom, VR (gOf W) W (atomL a) v := by
  have hv' : ∃ cs, v = .agg cs ∧ cs.size = Tryz.prog.cellsOf 24 ∧ Row.okWide Tryz.prog W .any base 24 cs := by
    unfold Value.okWide at hv
    rw [Tryz.underlying24] at hv
    exact hv
  obtain ⟨cs, rfl, hsz, ts, hts, _, hrow⟩ := hv'
  rw [z24] at hsz
  obtain ⟨fuel, h⟩ := h
  obtain ⟨y0, y1, n, _, hl, h0, h1⟩ := trod_struct2 Tryz.underlying24 h
  obtain ⟨l⟩ := cs
  match l, hsz with
  | [u0, u1], _ =>
    simp only [z9, z22] at h0 h1
    obtain ⟨s, e0, _⟩ := DataW.trod_string Tryz.underlying9 (show DataW.trod enc Tryz.prog W 0 sp hd n 9 [u0] = some y0 from h0)
    simp only [List.cons.injEq, and_true] at e0
    subst e0
    have fin : ∀ ts : List Term, VR (gOf W) W (argsL ts) u1 → u1.oneCell' = true → ∃ a : Atom, VR (gOf W) W (atomL a) (.agg #[.string s, u1]) := by
      intro ts hu hone
      refine ⟨⟨s, ts⟩, .agg rfl (fun i c hc => ?_) (fun i hi => ?_)⟩
      · match i, hc with
        | 0, hc => simp at hc; subst hc; exact .sc _
        | 1, hc => simp at hc; subst hc; exact hu
        | i + 2, hc => simp at hc
      · match i, hi with
        | 0, _ => rfl
        | 1, _ => exact hone
        | i + 2, hi => simp at hi; omega
    rcases Deep.open_slice Tryz.underlying22 (show DataW.trod enc Tryz.prog W 0 sp hd n 22 [u1] = some y1 from h1) with ⟨e1, _⟩ | ⟨a, len, cap, m, k, D, Pl, e1, _, hlc, _, hm, _, hel⟩
    · simp only [List.cons.injEq, and_true] at e1
      subst e1
      exact fin [] (.sln trivial) rfl
    · simp only [List.cons.injEq, and_true] at e1
      subst e1
      have hspot : a.spot = none := by
        rw [ts24] at hts
        cases hts
        obtain ⟨u, hu, hc⟩ := hrow 1 _ rfl
        simp at hu
        subst hu
        unfold Cell.okWide at hc
        rw [Tryz.underlying22] at hc
        simp only at hc
        unfold Cell.ok at hc
        rw [Tryz.underlying22] at hc
        exact hc.2.2.2.1
      have hlm : len ≤ m := by
        rw [hm]; split <;> omega
      have ht : ∀ i, ∃ t : Term, i < len → ∀ j, j < 3 → W.cell? (at_ a.block (a.off + i * 3 + j)) = some (tv t j) := by
        intro i
        by_cases hi : i < len
        · obtain ⟨cs', q1, q2⟩ := hel i (by omega)
          rw [z30] at q1
          obtain ⟨_, _, q3⟩ := World.cells?_some q1
          obtain ⟨t, ht⟩ := open_term q2
          refine ⟨t, fun _ j hj => ?_⟩
          rw [← ht j hj, ← q3 j hj, add_add hspot]
        · exact ⟨⟨0, 0, ⟨#[]⟩⟩, fun h => absurd h hi⟩
      let T : Nat → Term := fun i => Classical.choose (ht i)
      have hT : ∀ i, i < len → ∀ j, j < 3 → W.cell? (at_ a.block (a.off + i * 3 + j)) = some (tv (T i) j) := fun i => Classical.choose_spec (ht i)
      have ha : a = at_ a.block a.off := by
        obtain ⟨b, o, sp⟩ := a
        simp only at hspot
        subst hspot
        rfl
      have hget : ∀ (i : Nat) (e : LV), (((List.range len).map T).map termL)[i]? = some e → i < len ∧ e = termL (T i) := by
        intro i e he
        rw [List.getElem?_map, List.getElem?_map] at he
        cases hr : (List.range len)[i]? with
        | none => rw [hr] at he; cases he
        | some k =>
          rw [hr] at he
          obtain ⟨hlt, rfl⟩ := List.getElem?_eq_some_iff.1 hr
          simp at hlt he
          exact ⟨hlt, he.symm⟩
      refine fin ((List.range len).map T) ?_ rfl
      have hlen : (((List.range len).map T).map termL).length = len := by simp
      have hV := VR.sl (G := gOf W) (w := W) (es := ((List.range len).map T).map termL) (own := .no) (b := a.block) (off := a.off) (sz := 3) (cap := cap) (xs := fun i j => tv (T i) j) (by rw [hlen]; exact hlc)
        (fun i e he => by obtain ⟨_, rfl⟩ := hget i e he; rfl)
        (fun i e j c he hc => by
          obtain ⟨hi, rfl⟩ := hget i e he
          obtain ⟨hj, _⟩ := termC_tv (T i) j c hc
          have := hT i hi j hj
          exact ⟨gOf_cl this, this, by unfold tv; split <;> rfl⟩)
        (fun i e j c he hc => by
          obtain ⟨hi, rfl⟩ := hget i e he
          obtain ⟨_, rfl⟩ := termC_tv (T i) j c hc
          exact .sc _) trivial
      rw [hlen, ← ha] at hV
      exact hV
end
/-- The law's run from any world in which its arguments read. -/
theorem law_run (a b : Atom) (W : World) (us : Array Value) (h0 : us.size = 2) (h1 : VR (gOf W) W (atomL a) (us.getD 0 undef)) (h2 : VR (gOf W) W (atomL b) (us.getD 1 undef)) :
    Calls Tryz.prog 3 us W fun e W' => e = .returned (.bool true) ∧ Below W.heap.size W W' := by
  have hP := t_law t_sanity a b
  have hO := hP ⟨[], 1⟩ (fun v _ => v = .bool true) (fun _ _ => False) (fun _ _ => rfl) trivial
  have hC : CallOk Tryz.prog E0 3 [atomL a, atomL b] ⟨[], 1⟩ _ := sound hmixT fnsT hO
  refine (hC.2 (gOf W) W us (gOf_inv W 1) (gOf_env W) ⟨h0, fun i x hi => ?_⟩).mono fun e W' hp => ?_
  · match i, hi with
    | 0, hi => simp at hi; subst hi; exact h1
    | 1, hi => simp at hi; subst hi; exact h2
    | i + 2, hi => simp at hi
  · cases e with
    | outgrown => exact hp.elim
    | panicked ch =>
      obtain ⟨_, _, _, _, hT, _⟩ := hp
      rcases hT with ⟨_, _, he, _⟩ | ⟨_, _, he, _, hf⟩
      · cases he
      · exact hf.elim
    | returned u =>
      obtain ⟨v, H', G', hT, hV, _, hx⟩ := hp
      rcases hT with ⟨v', H'', he, _, hv⟩ | ⟨_, _, he, _⟩
      · cases he
        subst hv
        obtain rfl := hV.sc_inv
        exact ⟨rfl, hx.os, hx.tape, hx.output, hx.size, fun k hk => hx.block k (by simp [gOf, hk])⟩
      · cases he
end Go.Abs.Tz
