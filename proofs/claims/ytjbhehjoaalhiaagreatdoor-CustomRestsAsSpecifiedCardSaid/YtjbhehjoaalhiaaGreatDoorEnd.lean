/- For every row of customs, every row of given atoms, every year, every atom and every number the law CustomRestsAsSpecified returns true, and all read afterwards as before: the row, and the card that ties what it lists to the program's text. Conditions: the listed variables read as the program's text lays them (the card ties them); nothing else is asked. -/
import Derived.Test.YtjbhehjoaalhiaaGreatDoorPartO
import Derived.Test.YtjbhehjoaalhiaaGreatDoorTie
import Derived.Test.YtjbhehjoaalhiaaGreatDoorCards
import Derived.ProofKit
import Derived.LaidMore
import Derived.OpenShut
import Derived.Stop.Joined
import Derived.SevenTiedAt
import Derived.Carry
namespace Go.Proofs.YtjbhehjoaalhiaaGreatDoor
open Go Go.ChangeShapes Go.WideShapes Go.ChangeAt Go.RowKit
theorem own : ownKnob Tryz.prog.godebug = none := by kernel_rfl
theorem laidOut : laidOutB Tryz.prog = true := by kernel_rfl
def laidT : List (String × DataW Unit) := Rows.customRestsAsSpecifiedRow.laid
/-- The door's own heap meets the condition. -/
theorem door_met (os : Os) (args : Array Value) : laidMetH Tryz.prog laidT ((World.doorLaid Tryz.prog 4000 os).forCall (fun _ _ => 0) ⟨#[], args, []⟩).memory :=
  laidMetH_of_parts3 (fuel := 8) (laidMet_of_run' 8 (by kernel_rfl) (by kernel_rfl)) (by kernel_rfl) (by kernel_rfl)
theorem below_kept {w w' : World} {may : MemPlace → Prop} (h : Below w.heap.size w w') : w.keptBut w' may := by
  refine ⟨h.os, h.output, fun i hi => ?_⟩
  rw [h.block i hi]
  cases w.heap[i]? with
  | none => rfl
  | some o =>
    cases o with
    | cells c t fr => exact ⟨rfl, rfl, rfl, fun _ _ => rfl⟩
    | map es clock => exact .inr ⟨rfl, rfl⟩
    | _ => rfl
set_option maxRecDepth 100000 in
theorem lifted (os : Os) (started : os.Started) (H : Type) (enc : TypeId × Value → H) :
    ReturnsInHanded {} Tryz.checked os 5 .any (fun w args => (Rows.customRestsAsSpecifiedSpec.pre enc Tryz.prog Tryz.f5 [] false w args ∧ laidMetH Tryz.prog laidT w) ∧ sizedMet enc Tryz.prog Tryz.f5 (OpenSpec.ofChange Rows.customRestsAsSpecifiedSpec) false w args)
      (Rows.customRestsAsSpecifiedSpec.post enc Tryz.prog Tryz.f5 false true false false) := by
  refine returnsInHanded_of_change_and (C := Tryz.checked) (X := fun w _ => laidMetH Tryz.prog laidT w) (fun _ _ _ hh h => h.of_heap hh) own started (by kernel_rfl) Tryz.func5
    (ChangeSpec.witness_shaped (enc := enc) (C := Tryz.checked) (os := os) (X := fun w _ => laidMetH Tryz.prog laidT w) false (World.doorLaid Tryz.prog 4000 os) #[.slice none 0 0, .slice none 0 0, .int .i64 0, .agg #[.string ⟨#[]⟩, .slice none 0 0], .int .i64 0] 8 rfl (World.shaped_of_RefB (by kernel_rfl) (by kernel_rfl)) (by kernel_rfl) (by kernel_rfl) (by kernel_rfl) (door_met os _)) ?_
  intro W base args ds gs before hval0 hW _ _ hX _
  have hval : ∀ (j : Nat) t v, Tryz.f5.params[j]? = some t → args[j]? = some v → Value.okWide Tryz.prog W .any base t v := hval0
  have hW' := hW
  obtain ⟨p, q, hA0, hV, rfl, hfz, hnd⟩ := hW
  have hA : DataW.TrodAll enc Tryz.prog W 0 (fun _ => true) true Tryz.f5.params.toList args.toList ds p := hA0
  rw [Tryz.params5] at hA hval
  obtain ⟨v0, v1, v2, v3, v4, d0, d1, d2, d3, d4, p0, p1, p2, p3, p4, rfl, rfl, rfl, h0, h1, h2, h3, h4⟩ := Go.Abs.Tz.trodAll_five hA
  obtain ⟨rfl, rfl⟩ := trodVars_none hV
  obtain ⟨l, hl, hb, hn⟩ := Go.Abs.Tz.open_customs h0 (hval 0 47 v0 rfl rfl)
  obtain ⟨bs, hbs, hbn⟩ := Go.Abs.Tz.open_atoms h1 (hval 1 48 v1 rfl rfl)
  obtain ⟨y, rfl⟩ := Go.Abs.Tz.open_intP (hval 2 3 v2 rfl rfl)
  obtain ⟨a, ha⟩ := Go.Abs.Tz.open_atomP h3 (hval 3 32 v3 rfl rfl)
  obtain ⟨i, rfl⟩ := Go.Abs.Tz.open_intP (hval 4 3 v4 rfl rfl)
  have hlt : ∀ x ∈ (p0 ++ p1 ++ p2 ++ p3 ++ p4) ++ [], x.block < W.heap.size := fun x hx => hW'.lt x hx
  refine (Go.Abs.Tz.law_run11 l bs y a i hl hb hbs W hX #[v0, v1, .int .i64 y, v3, .int .i64 i] rfl hn hbn rfl ha rfl).mono fun e W' ⟨he, hbl⟩ => ?_
  subst he
  have k0 := Below.trod laidOut (by kernel_rfl) (of_decide_eq_true (by kernel_rfl)) h0 hbl (fun x hx => hlt x (by simp [hx]))
  have k1 := Below.trod laidOut (by kernel_rfl) (of_decide_eq_true (by kernel_rfl)) h1 hbl (fun x hx => hlt x (by simp [hx]))
  have k2 := Below.trod laidOut (by kernel_rfl) (of_decide_eq_true (by kernel_rfl)) h2 hbl (fun x hx => hlt x (by simp [hx]))
  have k3 := Below.trod laidOut (by kernel_rfl) (of_decide_eq_true (by kernel_rfl)) h3 hbl (fun x hx => hlt x (by simp [hx]))
  have k4 := Below.trod laidOut (by kernel_rfl) (of_decide_eq_true (by kernel_rfl)) h4 hbl (fun x hx => hlt x (by simp [hx]))
  refine ⟨_, rfl, [d0, d1, d2, d3, d4], [], (p0 ++ p1 ++ p2 ++ p3 ++ p4) ++ [], [], p0 ++ p1 ++ p2 ++ p3 ++ p4, [], hW', trodAll_mk1 (shut_bool Tryz.underlying4 _), ?_, rfl, below_kept hbl, fun h => by cases h⟩
  show DataW.TrodAll enc Tryz.prog W' 0 (fun b => decide (b < W.heap.size)) true Tryz.f5.params.toList [v0, v1, .int .i64 y, v3, .int .i64 i] [d0, d1, d2, d3, d4] (p0 ++ p1 ++ p2 ++ p3 ++ p4)
  rw [Tryz.params5]
  exact ⟨p0, p1 ++ (p2 ++ (p3 ++ p4)), k0, ⟨p1, p2 ++ (p3 ++ p4), k1, ⟨p2, p3 ++ p4, k2, ⟨p3, p4, k3, ⟨p4, [], k4, rfl, by simp⟩, rfl⟩, rfl⟩, rfl⟩, by simp⟩
theorem named : Tryz.pinned.checked.prog.funcNamed Rows.customRestsAsSpecifiedRow.func = some 5 := by kernel_rfl
theorem facts : joinedFacts Tryz.pinned.checked.prog 5 Tryz.f5 Rows.customRestsAsSpecifiedSpec Rows.customRestsAsSpecifiedRow = true := by kernel_rfl
theorem holds : Rows.CustomRestsAsSpecifiedSaid :=
  OpenClaim.holds_of_wide 5 Tryz.f5 rfl rfl rfl rfl rfl rfl rfl ⟨rfl, rfl, rfl, rfl, rfl⟩ rfl rfl rfl rfl rfl named Tryz.func5 facts
    (of_decide_eq_true (by kernel_rfl)) (by unfold Func.isWrapper; first | (rw [if_pos (by decide +kernel)]; kernel_rfl) | (rw [if_neg (by decide +kernel)]; exact ⟨rfl, rfl⟩))
    (fun os started H enc _ => lifted os started H enc)
/-- The statement. -/
theorem customRestsAsSpecified_card : Rows.CustomRestsAsSpecifiedCardSaid :=
  Claim7.holds_tied_plain_at .later [] [.data, .data, .data, .sentinel, .sentinel] true (true, "fa69cc2c7f23b1ebccfa37944c81a5fa1814386478a9120cf3df6f32d724c322") true
    holds (fun _ h => by cases h) (by kernel_rfl) (fun _ h => by cases h) customRestsAsSpecified_row_tie rfl ⟨rfl, rfl⟩ (by kernel_rfl) rfl
    (fun f fn hf hfn => by
      obtain rfl : f = 5 := Option.some.inj (named.symm.trans hf) |>.symm
      obtain rfl : fn = Tryz.f5 := (Option.some.inj (Tryz.func5.symm.trans hfn)).symm
      exact ⟨by kernel_rfl, fun j t ht => by
        rw [Tryz.params5] at ht
        have hm : t ∈ [47, 48, 3, 32, 3] := by simpa using Array.mem_of_getElem? ht
        have hall : ([47, 48, 3, 32, 3].all fun u => !Tryz.prog.wantsStandIn u) = true := by kernel_rfl
        exact (show Tryz.prog.wantsStandIn t = false by simpa using List.all_eq_true.1 hall t hm)⟩)
    (by kernel_rfl)
#print axioms customRestsAsSpecified_card
end Go.Proofs.YtjbhehjoaalhiaaGreatDoor
