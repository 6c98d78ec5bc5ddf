/- For every row of clauses, every atom and every source the law CustomTexts returns true, and all read afterwards as before: the row, and the card that ties what it lists to the program's text. Conditions: the listed variables read as the program's text lays them (the card ties them); nothing else is asked. -/
import Derived.Test.YtjdooijejbmbnaaGreatDoorPartX
import Derived.Test.YtjdooijejbmbnaaGreatDoorTie
import Derived.Test.YtjdooijejbmbnaaGreatDoorCards
import Derived.ProofKit
import Derived.LaidMore
import Derived.OpenShut
import Derived.Stop.Joined
import Derived.SevenTiedAt
import Derived.Carry
namespace Go.Proofs.YtjdooijejbmbnaaGreatDoor
open Go Go.ChangeShapes Go.WideShapes Go.ChangeAt Go.RowKit
theorem own : ownKnob Tryz.prog.godebug = none := by kernel_rfl
theorem laidOut : laidOutB Tryz.prog = true := by kernel_rfl
def laidT : List (String × DataW Unit) := Rows.customTextsRow.laid
/-- The door's own heap meets the condition. -/
theorem door_met (os : Os) (args : Array Value) : laidMetH Tryz.prog laidT ((World.doorLaid Tryz.prog 4000 os).forCall (fun _ _ => 0) ⟨#[], args, []⟩).memory :=
  laidMetH_of_parts3 (fuel := 8) (laidMet_of_run' 8 (by kernel_rfl) (by kernel_rfl)) (by kernel_rfl) (by kernel_rfl)
theorem below_kept {w w' : World} {may : MemPlace → Prop} (h : Below w.heap.size w w') : w.keptBut w' may := by
  refine ⟨h.os, h.output, fun i hi => ?_⟩
  rw [h.block i hi]
  cases w.heap[i]? with
  | none => rfl
  | some o =>
    cases o with
    | cells c t fr => exact ⟨rfl, rfl, rfl, fun _ _ => rfl⟩
    | map es clock => exact .inr ⟨rfl, rfl⟩
    | _ => rfl
set_option maxRecDepth 100000 in
theorem lifted (os : Os) (started : os.Started) (H : Type) (enc : TypeId × Value → H) :
    ReturnsInHanded {} Tryz.checked os 4 .any (fun w args => (Rows.customTextsSpec.pre enc Tryz.prog Tryz.f4 [] false w args ∧ laidMetH Tryz.prog laidT w) ∧ sizedMet enc Tryz.prog Tryz.f4 (OpenSpec.ofChange Rows.customTextsSpec) false w args)
      (Rows.customTextsSpec.post enc Tryz.prog Tryz.f4 false true false false) := by
  refine returnsInHanded_of_change_and (C := Tryz.checked) (X := fun w _ => laidMetH Tryz.prog laidT w) (fun _ _ _ hh h => h.of_heap hh) own started (by kernel_rfl) Tryz.func4
    (ChangeSpec.witness_shaped (enc := enc) (C := Tryz.checked) (os := os) (X := fun w _ => laidMetH Tryz.prog laidT w) false (World.doorLaid Tryz.prog 4000 os) #[.slice none 0 0, .agg #[.string ⟨#[]⟩, .slice none 0 0], .string ⟨#[]⟩] 8 rfl (World.shaped_of_RefB (by kernel_rfl) (by kernel_rfl)) (by kernel_rfl) (by kernel_rfl) (by kernel_rfl) (door_met os _)) ?_
  intro W base args ds gs before hval0 hW _ _ hX _
  have hval : ∀ (j : Nat) t v, Tryz.f4.params[j]? = some t → args[j]? = some v → Value.okWide Tryz.prog W .any base t v := hval0
  have hW' := hW
  obtain ⟨p, q, hA0, hV, rfl, hfz, hnd⟩ := hW
  have hA : DataW.TrodAll enc Tryz.prog W 0 (fun _ => true) true Tryz.f4.params.toList args.toList ds p := hA0
  rw [Tryz.params4] at hA hval
  obtain ⟨v0, v1, v2, d0, d1, d2, p0, p1, p2, rfl, rfl, rfl, h0, h1, h2⟩ := trodAll_three hA
  obtain ⟨rfl, rfl⟩ := trodVars_none hV
  obtain ⟨l, _, hb, hl⟩ := Go.Abs.Tz.open_clauses h0 (hval 0 23 v0 rfl rfl)
  obtain ⟨a, ha⟩ := Go.Abs.Tz.open_atomP h1 (hval 1 32 v1 rfl rfl)
  obtain ⟨s, rfl⟩ := Go.Abs.Tz.open_strP (hval 2 9 v2 rfl rfl)
  have hlt : ∀ x ∈ (p0 ++ p1 ++ p2) ++ [], x.block < W.heap.size := fun x hx => hW'.lt x hx
  refine (Go.Abs.Tz.law_run4 l a s hb W hX #[v0, v1, .string s] rfl hl ha rfl).mono fun e W' ⟨he, hbl⟩ => ?_
  subst he
  have k0 := Below.trod laidOut (by kernel_rfl) (of_decide_eq_true (by kernel_rfl)) h0 hbl (fun x hx => hlt x (by simp [hx]))
  have k1 := Below.trod laidOut (by kernel_rfl) (of_decide_eq_true (by kernel_rfl)) h1 hbl (fun x hx => hlt x (by simp [hx]))
  have k2 := Below.trod laidOut (by kernel_rfl) (of_decide_eq_true (by kernel_rfl)) h2 hbl (fun x hx => hlt x (by simp [hx]))
  refine ⟨_, rfl, [d0, d1, d2], [], (p0 ++ p1 ++ p2) ++ [], [], p0 ++ p1 ++ p2, [], hW', trodAll_mk1 (shut_bool Tryz.underlying4 _), ?_, rfl, below_kept hbl, fun h => by cases h⟩
  show DataW.TrodAll enc Tryz.prog W' 0 (fun b => decide (b < W.heap.size)) true Tryz.f4.params.toList [v0, v1, .string s] [d0, d1, d2] (p0 ++ p1 ++ p2)
  rw [Tryz.params4]
  exact ⟨p0, p1 ++ p2, k0, ⟨p1, p2, k1, ⟨p2, [], k2, rfl, by simp⟩, rfl⟩, by simp⟩
theorem named : Tryz.pinned.checked.prog.funcNamed Rows.customTextsRow.func = some 4 := by kernel_rfl
theorem facts : joinedFacts Tryz.pinned.checked.prog 4 Tryz.f4 Rows.customTextsSpec Rows.customTextsRow = true := by kernel_rfl
theorem holds : Rows.CustomTextsSaid :=
  OpenClaim.holds_of_wide 4 Tryz.f4 rfl rfl rfl rfl rfl rfl rfl ⟨rfl, rfl, rfl, rfl, rfl⟩ rfl rfl rfl rfl rfl named Tryz.func4 facts
    (of_decide_eq_true (by kernel_rfl)) (by unfold Func.isWrapper; first | (rw [if_pos (by decide +kernel)]; kernel_rfl) | (rw [if_neg (by decide +kernel)]; exact ⟨rfl, rfl⟩))
    (fun os started H enc _ => lifted os started H enc)
/-- The statement. -/
theorem customTexts_card : Rows.CustomTextsCardSaid :=
  Claim7.holds_tied_plain_at .later [] [.data, .data, .data, .sentinel, .sentinel] true (true, "801d7d41e9a2cb282b150f81b3f624f2e9c265041fe9062321928cb915de5ef6") true
    holds (fun _ h => by cases h) (by kernel_rfl) (fun _ h => by cases h) customTexts_row_tie rfl ⟨rfl, rfl⟩ (by kernel_rfl) rfl
    (fun f fn hf hfn => by
      obtain rfl : f = 4 := Option.some.inj (named.symm.trans hf) |>.symm
      obtain rfl : fn = Tryz.f4 := (Option.some.inj (Tryz.func4.symm.trans hfn)).symm
      exact ⟨by kernel_rfl, fun j t ht => by
        rw [Tryz.params4] at ht
        have hm : t ∈ [23, 32, 9] := by simpa using Array.mem_of_getElem? ht
        have hall : ([23, 32, 9].all fun u => !Tryz.prog.wantsStandIn u) = true := by kernel_rfl
        exact (show Tryz.prog.wantsStandIn t = false by simpa using List.all_eq_true.1 hall t hm)⟩)
    (by kernel_rfl)
#print axioms customTexts_card
end Go.Proofs.YtjdooijejbmbnaaGreatDoor
