/- For every row of customs, every row of given atoms, every custom, every two years and every atom the law CustomKeepsYears returns true, and all read afterwards as before: the row, and the card that ties what it lists to the program's text. Conditions: the listed variables read as the program's text lays them (the card ties them); nothing else is asked. -/
import Derived.Test.YtjbhehjoaalhiaaGreatDoorPartO
import Derived.Test.YtjbhehjoaalhiaaGreatDoorTie
import Derived.Test.YtjbhehjoaalhiaaGreatDoorCards
import Derived.ProofKit
import Derived.LaidMore
import Derived.OpenShut
import Derived.Stop.Joined
import Derived.SevenTiedAt
import Derived.Carry
namespace Go.Proofs.YtjbhehjoaalhiaaGreatDoor
open Go Go.ChangeShapes Go.WideShapes Go.ChangeAt Go.RowKit
theorem own : ownKnob Tryz.prog.godebug = none := by kernel_rfl
theorem laidOut : laidOutB Tryz.prog = true := by kernel_rfl
def laidT : List (String × DataW Unit) := Rows.customKeepsYearsRow.laid
/-- The door's own heap meets the condition. -/
theorem door_met (os : Os) (args : Array Value) : laidMetH Tryz.prog laidT ((World.doorLaid Tryz.prog 4000 os).forCall (fun _ _ => 0) ⟨#[], args, []⟩).memory :=
  laidMetH_of_parts3 (fuel := 8) (laidMet_of_run' 8 (by kernel_rfl) (by kernel_rfl)) (by kernel_rfl) (by kernel_rfl)
theorem below_kept {w w' : World} {may : MemPlace → Prop} (h : Below w.heap.size w w') : w.keptBut w' may := by
  refine ⟨h.os, h.output, fun i hi => ?_⟩
  rw [h.block i hi]
  cases w.heap[i]? with
  | none => rfl
  | some o =>
    cases o with
    | cells c t fr => exact ⟨rfl, rfl, rfl, fun _ _ => rfl⟩
    | map es clock => exact .inr ⟨rfl, rfl⟩
    | _ => rfl
set_option maxRecDepth 100000 in
theorem lifted (os : Os) (started : os.Started) (H : Type) (enc : TypeId × Value → H) :
    ReturnsInHanded {} Tryz.checked os 7 .any (fun w args => (Rows.customKeepsYearsSpec.pre enc Tryz.prog Tryz.f7 [] false w args ∧ laidMetH Tryz.prog laidT w) ∧ sizedMet enc Tryz.prog Tryz.f7 (OpenSpec.ofChange Rows.customKeepsYearsSpec) false w args)
      (Rows.customKeepsYearsSpec.post enc Tryz.prog Tryz.f7 false true false false) := by
  refine returnsInHanded_of_change_and (C := Tryz.checked) (X := fun w _ => laidMetH Tryz.prog laidT w) (fun _ _ _ hh h => h.of_heap hh) own started (by kernel_rfl) Tryz.func7
    (ChangeSpec.witness_shaped (enc := enc) (C := Tryz.checked) (os := os) (X := fun w _ => laidMetH Tryz.prog laidT w) false (World.doorLaid Tryz.prog 4000 os) #[.slice none 0 0, .slice none 0 0, .agg #[.int .i64 0, .int .i64 0, .int .i64 0, .slice none 0 0], .int .i64 0, .int .i64 0, .agg #[.string ⟨#[]⟩, .slice none 0 0]] 8 rfl (World.shaped_of_RefB (by kernel_rfl) (by kernel_rfl)) (by kernel_rfl) (by kernel_rfl) (by kernel_rfl) (door_met os _)) ?_
  intro W base args ds gs before hval0 hW _ _ hX _
  have hval : ∀ (j : Nat) t v, Tryz.f7.params[j]? = some t → args[j]? = some v → Value.okWide Tryz.prog W .any base t v := hval0
  have hW' := hW
  obtain ⟨p, q, hA0, hV, rfl, hfz, hnd⟩ := hW
  have hA : DataW.TrodAll enc Tryz.prog W 0 (fun _ => true) true Tryz.f7.params.toList args.toList ds p := hA0
  rw [Tryz.params7] at hA hval
  obtain ⟨v0, v1, v2, v3, v4, v5, d0, d1, d2, d3, d4, d5, p0, p1, p2, p3, p4, p5, rfl, rfl, rfl, h0, h1, h2, h3, h4, h5⟩ := Go.Abs.Tz.trodAll_six hA
  obtain ⟨rfl, rfl⟩ := trodVars_none hV
  obtain ⟨l, hl, hb, hn⟩ := Go.Abs.Tz.open_customs h0 (hval 0 47 v0 rfl rfl)
  obtain ⟨bs, hbs, hbn⟩ := Go.Abs.Tz.open_atoms h1 (hval 1 48 v1 rfl rfl)
  obtain ⟨c, hc, hcv⟩ := Go.Abs.Tz.open_customP h2 (hval 2 66 v2 rfl rfl)
  obtain ⟨y, rfl⟩ := Go.Abs.Tz.open_intP (hval 3 3 v3 rfl rfl)
  obtain ⟨z, rfl⟩ := Go.Abs.Tz.open_intP (hval 4 3 v4 rfl rfl)
  obtain ⟨a, ha⟩ := Go.Abs.Tz.open_atomP h5 (hval 5 32 v5 rfl rfl)
  have hlt : ∀ x ∈ (p0 ++ p1 ++ p2 ++ p3 ++ p4 ++ p5) ++ [], x.block < W.heap.size := fun x hx => hW'.lt x hx
  refine (Go.Abs.Tz.law_run13 l bs c y z a hl hb hbs hc W hX #[v0, v1, v2, .int .i64 y, .int .i64 z, v5] rfl hn hbn hcv rfl rfl ha).mono fun e W' ⟨he, hbl⟩ => ?_
  subst he
  have k0 := Below.trod laidOut (by kernel_rfl) (of_decide_eq_true (by kernel_rfl)) h0 hbl (fun x hx => hlt x (by simp [hx]))
  have k1 := Below.trod laidOut (by kernel_rfl) (of_decide_eq_true (by kernel_rfl)) h1 hbl (fun x hx => hlt x (by simp [hx]))
  have k2 := Below.trod laidOut (by kernel_rfl) (of_decide_eq_true (by kernel_rfl)) h2 hbl (fun x hx => hlt x (by simp [hx]))
  have k3 := Below.trod laidOut (by kernel_rfl) (of_decide_eq_true (by kernel_rfl)) h3 hbl (fun x hx => hlt x (by simp [hx]))
  have k4 := Below.trod laidOut (by kernel_rfl) (of_decide_eq_true (by kernel_rfl)) h4 hbl (fun x hx => hlt x (by simp [hx]))
  have k5 := Below.trod laidOut (by kernel_rfl) (of_decide_eq_true (by kernel_rfl)) h5 hbl (fun x hx => hlt x (by simp [hx]))
  refine ⟨_, rfl, [d0, d1, d2, d3, d4, d5], [], (p0 ++ p1 ++ p2 ++ p3 ++ p4 ++ p5) ++ [], [], p0 ++ p1 ++ p2 ++ p3 ++ p4 ++ p5, [], hW', trodAll_mk1 (shut_bool Tryz.underlying4 _), ?_, rfl, below_kept hbl, fun h => by cases h⟩
  show DataW.TrodAll enc Tryz.prog W' 0 (fun b => decide (b < W.heap.size)) true Tryz.f7.params.toList [v0, v1, v2, .int .i64 y, .int .i64 z, v5] [d0, d1, d2, d3, d4, d5] (p0 ++ p1 ++ p2 ++ p3 ++ p4 ++ p5)
  rw [Tryz.params7]
  exact ⟨p0, p1 ++ (p2 ++ (p3 ++ (p4 ++ p5))), k0, ⟨p1, p2 ++ (p3 ++ (p4 ++ p5)), k1, ⟨p2, p3 ++ (p4 ++ p5), k2, ⟨p3, p4 ++ p5, k3, ⟨p4, p5, k4, ⟨p5, [], k5, rfl, by simp⟩, rfl⟩, rfl⟩, rfl⟩, rfl⟩, by simp⟩
theorem named : Tryz.pinned.checked.prog.funcNamed Rows.customKeepsYearsRow.func = some 7 := by kernel_rfl
theorem facts : joinedFacts Tryz.pinned.checked.prog 7 Tryz.f7 Rows.customKeepsYearsSpec Rows.customKeepsYearsRow = true := by kernel_rfl
theorem holds : Rows.CustomKeepsYearsSaid :=
  OpenClaim.holds_of_wide 7 Tryz.f7 rfl rfl rfl rfl rfl rfl rfl ⟨rfl, rfl, rfl, rfl, rfl⟩ rfl rfl rfl rfl rfl named Tryz.func7 facts
    (of_decide_eq_true (by kernel_rfl)) (by unfold Func.isWrapper; first | (rw [if_pos (by decide +kernel)]; kernel_rfl) | (rw [if_neg (by decide +kernel)]; exact ⟨rfl, rfl⟩))
    (fun os started H enc _ => lifted os started H enc)
/-- The statement. -/
theorem customKeepsYears_card : Rows.CustomKeepsYearsCardSaid :=
  Claim7.holds_tied_plain_at .later [] [.data, .data, .data, .sentinel, .sentinel] true (true, "fa69cc2c7f23b1ebccfa37944c81a5fa1814386478a9120cf3df6f32d724c322") true
    holds (fun _ h => by cases h) (by kernel_rfl) (fun _ h => by cases h) customKeepsYears_row_tie rfl ⟨rfl, rfl⟩ (by kernel_rfl) rfl
    (fun f fn hf hfn => by
      obtain rfl : f = 7 := Option.some.inj (named.symm.trans hf) |>.symm
      obtain rfl : fn = Tryz.f7 := (Option.some.inj (Tryz.func7.symm.trans hfn)).symm
      exact ⟨by kernel_rfl, fun j t ht => by
        rw [Tryz.params7] at ht
        have hm : t ∈ [47, 48, 66, 3, 3, 32] := by simpa using Array.mem_of_getElem? ht
        have hall : ([47, 48, 66, 3, 3, 32].all fun u => !Tryz.prog.wantsStandIn u) = true := by kernel_rfl
        exact (show Tryz.prog.wantsStandIn t = false by simpa using List.all_eq_true.1 hall t hm)⟩)
    (by kernel_rfl)
#print axioms customKeepsYears_card
end Go.Proofs.YtjbhehjoaalhiaaGreatDoor
