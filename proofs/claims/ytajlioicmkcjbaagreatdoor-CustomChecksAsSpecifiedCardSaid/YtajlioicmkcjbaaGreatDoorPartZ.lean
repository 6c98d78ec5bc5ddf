/- A part of the proof that for every row of clauses, every atom and every number the law CustomChecksAsSpecified returns true, and all read afterwards as before. Conditions: none of its own. -/
import Derived.Test.YtajlioicmkcjbaaGreatDoorPartX
import Derived.Test.YtajlioicmkcjbaaGreatDoorPartG
import Derived.WalkKit
import Derived.RegionTactic
import Derived.Deep.RegionWith
import Derived.LoopN
import Derived.Deep.RegionHeld3
namespace Go.Proofs
open Go Go.Shelf Go.RowKit Go.Lib Go.Sort
set_option maxHeartbeats 1000000
set_option maxRecDepth 100000
theorem Tz.nanS (s : ByteArray) (w : World) : Calls Tryz.prog 70 #[.string s] w fun e w' => e = .returned (.bool false) /\ w' = w := by
  go_enter Tryz.func70, Tryz.ntmps70
  go_wp2
  go_ret
  exact ⟨rfl, rfl⟩
theorem Tz.nanI (s : Int) (w : World) : Calls Tryz.prog 71 #[.int .i64 s] w fun e w' => e = .returned (.bool false) /\ w' = w := by
  go_enter Tryz.func71, Tryz.ntmps71
  go_wp2
  go_ret
  exact ⟨rfl, rfl⟩
theorem Tz.cmpS (s t : ByteArray) (w : World) : Calls Tryz.prog 41 #[.string s, .string t] w fun e w' => e = .returned (.int .i64 (Go.Abs.Tz.cmpB s t)) /\ w' = w := by
  have hs := Tz.nanS s
  have ht := Tz.nanS t
  have hg : ∀ w : World, (binOp .gtr 9 (.string s) (.string t)).run Tryz.prog w = .ok (.bool (!(Op.bytesLess s.toList t.toList || s.toList == t.toList))) w := fun w => rfl
  go_enter Tryz.func41, Tryz.ntmps41
  go_wp2_with (go_at_call 70; first | (refine (hs _).mono ?_; rintro e w' ⟨rfl, rfl⟩) | (refine (ht _).mono ?_; rintro e w' ⟨rfl, rfl⟩))
  · rename_i h
    go_ret
    exact ⟨by simp [Go.Abs.Tz.cmpB, Go.Abs.Tz.lessB, h], rfl⟩
  · rename_i h _ _ h2
    have h2' : (s.toList == t.toList) = false := by simpa using h2
    go_ret
    exact ⟨by simp [Go.Abs.Tz.cmpB, Go.Abs.Tz.lessB, Go.Abs.Tz.eqBA, h, h2'], rfl⟩
  · rename_i h h2
    have h2' : (s.toList == t.toList) = true := by simpa using h2
    go_ret
    exact ⟨by simp [Go.Abs.Tz.cmpB, Go.Abs.Tz.lessB, Go.Abs.Tz.eqBA, h, h2'], rfl⟩
theorem Tz.cmpI (s t : Int) (w : World) : Calls Tryz.prog 42 #[.int .i64 s, .int .i64 t] w fun e w' => e = .returned (.int .i64 (Go.Abs.Tz.cmpI s t)) /\ w' = w := by
  have hs := Tz.nanI s
  have ht := Tz.nanI t
  go_enter Tryz.func42, Tryz.ntmps42
  go_wp2_with (go_at_call 71; first | (refine (hs _).mono ?_; rintro e w' ⟨rfl, rfl⟩) | (refine (ht _).mono ?_; rintro e w' ⟨rfl, rfl⟩))
  · rename_i h
    go_ret
    exact ⟨by simp [Go.Abs.Tz.cmpI, h], rfl⟩
  · rename_i h1 _ _ h2
    go_ret
    exact ⟨by simp [Go.Abs.Tz.cmpI, h2, show ¬ s < t by omega], rfl⟩
  · rename_i h1 h2
    go_ret
    exact ⟨by simp [Go.Abs.Tz.cmpI, show ¬ s < t by omega, show ¬ t < s by omega], rfl⟩
theorem Tz.or2 (b : Nat) (x y : Int) (w : World) (h0 : w.cell? ⟨b, 0, none⟩ = some (.int .i64 x)) (h1 : w.cell? ⟨b, 1, none⟩ = some (.int .i64 y)) : Calls Tryz.prog 40 #[.slice (some ⟨b, 0, none⟩) 2 2] w fun e w' => e = .returned (.int .i64 (Go.Abs.Tz.or2 x y)) /\ w' = w := by
  go_enter Tryz.func40, Tryz.ntmps40
  go_wp2
  refine wp_loop_rounds 3 ?_
  rw [rounds_succ]
  by_cases hx : x = 0
  · subst hx
    go_wp2
    rw [rounds_succ]
    by_cases hy : y = 0
    · subst hy
      go_wp2
      rw [rounds_succ]
      go_wp2
      go_ret
      exact ⟨rfl, rfl⟩
    · go_wp2
      go_ret
      exact ⟨by simp [Go.Abs.Tz.or2], rfl⟩
  · go_wp2
    go_ret
    exact ⟨by simp [Go.Abs.Tz.or2, hx], rfl⟩
theorem Tz.cell_new3 (W : World) (a b : Obj) (cs : Array Value) (t : TypeId) (i : Nat) : (((W.alloc a).alloc b).alloc (.cells cs t)).cell? ⟨W.heap.size + 1 + 1, i, none⟩ = cs[i]? := by
  have h : (((W.alloc a).alloc b).alloc (.cells cs t)).heap[W.heap.size + 1 + 1]? = some (.cells cs t) := by
    have h2 : ((W.alloc a).alloc b).heap.size = W.heap.size + 1 + 1 := by
      show ((W.heap.push a).push b).size = _
      simp
    rw [<- h2]
    exact Go.Abs.heap_alloc_new
  unfold World.cell?
  rw [h]
  rfl
theorem Tz.fin3 (W : World) (a b c : Obj) : (((W.alloc a).alloc b).alloc c).drew = grow (W.drewN 1) #[a, b, c] := by
  rw [alloc_eq_grow, alloc_eq_grow, alloc_eq_grow, grow_grow, grow_grow]
  rfl
theorem Tz.cell_new1 (W : World) (b : Obj) (cs : Array Value) (t : TypeId) (i : Nat) : ((W.alloc (.cells cs t)).alloc b).cell? ⟨W.heap.size, i, none⟩ = cs[i]? := by
  have h : ((W.alloc (.cells cs t)).alloc b).heap[W.heap.size]? = some (.cells cs t) := by
    show ((W.heap.push (.cells cs t)).push b)[W.heap.size]? = _
    rw [Array.getElem?_push_lt (by simp)]
    simp
  unfold World.cell?
  rw [h]
  rfl
theorem Tz.cell_new2 (W : World) (a : Obj) (cs : Array Value) (t : TypeId) (i : Nat) : ((W.alloc a).alloc (.cells cs t)).cell? ⟨W.heap.size + 1, i, none⟩ = cs[i]? := by
  have h : ((W.alloc a).alloc (.cells cs t)).heap[W.heap.size + 1]? = some (.cells cs t) := by
    have h2 : (W.alloc a).heap.size = W.heap.size + 1 := by
      show (W.heap.push a).size = _
      simp
    rw [<- h2]
    exact Go.Abs.heap_alloc_new
  unfold World.cell?
  rw [h]
  rfl
set_option maxHeartbeats 8000000 in
theorem Tz.closure (x y : Go.Abs.Tz.Strat) (W : World) : Calls Tryz.prog 39 #[.agg #[.string x.pred, .int .i64 x.args, .int .i64 x.level], .agg #[.string y.pred, .int .i64 y.args, .int .i64 y.level]] W fun e w' => e = .returned (.int .i64 (Go.Abs.Tz.cmpS x y)) /\ ∃ q os', w' = grow (W.drewN q) os' := by
  have hs := Tz.cmpS x.pred y.pred
  have hi := Tz.cmpI x.args y.args
  have ho := fun b => Tz.or2 b (Go.Abs.Tz.cmpB x.pred y.pred) (Go.Abs.Tz.cmpI x.args y.args)
  have hr : Go.Abs.Tz.cmpS x y = Go.Abs.Tz.or2 (Go.Abs.Tz.cmpB x.pred y.pred) (Go.Abs.Tz.cmpI x.args y.args) := rfl
  rw [hr]
  generalize Go.Abs.Tz.or2 (Go.Abs.Tz.cmpB x.pred y.pred) (Go.Abs.Tz.cmpI x.args y.args) = r at ho ⊢
  generalize Go.Abs.Tz.cmpB x.pred y.pred = r1 at hs ho
  generalize Go.Abs.Tz.cmpI x.args y.args = r2 at hi ho
  have c1 := fun i => Tz.cell_new1 W (.cells #[.string y.pred, .int .i64 y.args, .int .i64 y.level] 67) #[.string x.pred, .int .i64 x.args, .int .i64 x.level] 67 i
  have c2 := fun i => Tz.cell_new2 W (.cells #[.string x.pred, .int .i64 x.args, .int .i64 x.level] 67) #[.string y.pred, .int .i64 y.args, .int .i64 y.level] 67 i
  have d0 := c1 0
  have d1 := c1 1
  have e0 := c2 0
  have e1 := c2 1
  clear c1 c2
  go_enter Tryz.func39, Tryz.ntmps39
  go_wp2
  go_region_held3 (fun w' => w'.cell? ⟨W.heap.size, 0, none⟩ = some (.string x.pred) /\ w'.cell? ⟨W.heap.size, 1, none⟩ = some (.int .i64 x.args) /\ w'.cell? ⟨W.heap.size + 1, 0, none⟩ = some (.string y.pred) /\ w'.cell? ⟨W.heap.size + 1, 1, none⟩ = some (.int .i64 y.args)) (go_keep)
    (first | (go_at_call 41; refine (hs _).mono ?_; rintro e w' ⟨rfl, rfl⟩) | (go_at_call 42; refine (hi _).mono ?_; rintro e w' ⟨rfl, rfl⟩) | (go_at_call 40; refine (ho _ _ (Tz.cell_new3 _ _ _ _ _ _) (Tz.cell_new3 _ _ _ _ _ _)).mono ?_; rintro e w' ⟨rfl, rfl⟩))
  all_goals (go_wp2; go_ret; exact ⟨rfl, 1, _, Tz.fin3 _ _ _ _⟩)
end Go.Proofs
