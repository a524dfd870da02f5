/- VbvParts: the walk. -/
import Derived.Test.YtmghfhjiodeaeaaV5
import Derived.Test.YtmghfhjiodeaeaaVo
namespace Go.Proofs.Ytmghfhjiodeaeaa.vbvParts
open Go.RowKit

set_option maxHeartbeats 2000000 in
set_option maxRecDepth 100000 in
theorem walk (w : World) (s : Sq) (hI : SqI s) (f : Int) (_hf : -9223372036854775808 ≤ f ∧ f ≤ 9223372036854775807) (b : Int) (_hb : -9223372036854775808 ≤ b ∧ b ≤ 9223372036854775807) :
    Calls Try.prog 3 #[.agg (sqA s), .int .i64 f, .int .i64 b] w fun e w' => e = .returned (.bool true) ∧ Only [] w w' := by
  go_enter Try.func3, Try.ntmps3
  have tok : True := trivial
  go_wp2_with (clear tok; refine bxS (s := s) rfl rfl rfl ?_; rintro g1 w1 b1 o1 l1)
  refine rgn (Cls w1) (by kernel_rfl) (by kernel_rfl) Cls.refl ?_
  refine qC (fun w hC => Calls.cls hC (awake_any w)) rfl (fun w => ?_) ?_
  · go_simp; try rfl
  simp only [Act.put, List.setIfInBounds_toArray, List.set_cons_zero, List.set_cons_succ]
  refine qW ?_ rfl rfl (fun w hC K hK => ?_) ?_
  rotate_left
  · (go_wp2_with fail) <;> exact hK _ hC
  simp only [Act.put, List.setIfInBounds_toArray, List.set_cons_zero, List.set_cons_succ]
  refine qR _ rfl rfl rfl (fun w hC => hC.blk b1) Try.underlying26 rfl (info_sq _) ?_
  simp only [Act.put, List.setIfInBounds_toArray, List.set_cons_zero, List.set_cons_succ]
  refine qC (fun w hC => Calls.cls hC (Capacity_any w s hI)) rfl (fun w => ?_) ?_
  · go_simp; try rfl
  simp only [Act.put, List.setIfInBounds_toArray, List.set_cons_zero, List.set_cons_succ]
  refine qR _ rfl rfl rfl (fun w hC => hC.blk b1) Try.underlying26 rfl (info_sq _) ?_
  simp only [Act.put, List.setIfInBounds_toArray, List.set_cons_zero, List.set_cons_succ]
  refine qC (fun w hC => Calls.cls hC (refCapacity_any w s hI)) rfl (fun w => ?_) ?_
  · go_simp; try rfl
  simp only [Act.put, List.setIfInBounds_toArray, List.set_cons_zero, List.set_cons_succ]
  repeat (first | (refine qU rfl ?_; simp only [Act.put, List.setIfInBounds_toArray, List.set_cons_zero, List.set_cons_succ]) | (refine qW ?_ rfl rfl (fun w hC K hK => ?_) ?_; rotate_left; (focus ((go_wp2_with fail) <;> exact hK _ hC)); simp only [Act.put, List.setIfInBounds_toArray, List.set_cons_zero, List.set_cons_succ]))
  refine qR _ rfl rfl rfl (fun w hC => hC.blk b1) Try.underlying26 rfl (info_sq _) ?_
  simp only [Act.put, List.setIfInBounds_toArray, List.set_cons_zero, List.set_cons_succ]
  repeat (first | (refine qU rfl ?_; simp only [Act.put, List.setIfInBounds_toArray, List.set_cons_zero, List.set_cons_succ]) | (refine qW ?_ rfl rfl (fun w hC K hK => ?_) ?_; rotate_left; (focus ((go_wp2_with fail) <;> exact hK _ hC)); simp only [Act.put, List.setIfInBounds_toArray, List.set_cons_zero, List.set_cons_succ]))
  refine qC (fun w hC => Calls.cls hC (Arrival_any w s hI f)) rfl (fun w => ?_) ?_
  · go_simp; try rfl
  simp only [Act.put, List.setIfInBounds_toArray, List.set_cons_zero, List.set_cons_succ]
  refine qR _ rfl rfl rfl (fun w hC => hC.blk b1) Try.underlying26 rfl (info_sq _) ?_
  simp only [Act.put, List.setIfInBounds_toArray, List.set_cons_zero, List.set_cons_succ]
  repeat (first | (refine qU rfl ?_; simp only [Act.put, List.setIfInBounds_toArray, List.set_cons_zero, List.set_cons_succ]) | (refine qW ?_ rfl rfl (fun w hC K hK => ?_) ?_; rotate_left; (focus ((go_wp2_with fail) <;> exact hK _ hC)); simp only [Act.put, List.setIfInBounds_toArray, List.set_cons_zero, List.set_cons_succ]))
  refine qC (fun w hC => Calls.cls hC (refArrival_any w s hI f)) rfl (fun w => ?_) ?_
  · go_simp; try rfl
  simp only [Act.put, List.setIfInBounds_toArray, List.set_cons_zero, List.set_cons_succ]
  repeat (first | (refine qU rfl ?_; simp only [Act.put, List.setIfInBounds_toArray, List.set_cons_zero, List.set_cons_succ]) | (refine qW ?_ rfl rfl (fun w hC K hK => ?_) ?_; rotate_left; (focus ((go_wp2_with fail) <;> exact hK _ hC)); simp only [Act.put, List.setIfInBounds_toArray, List.set_cons_zero, List.set_cons_succ]))
  refine qR _ rfl rfl rfl (fun w hC => hC.blk b1) Try.underlying26 rfl (info_sq _) ?_
  simp only [Act.put, List.setIfInBounds_toArray, List.set_cons_zero, List.set_cons_succ]
  repeat (first | (refine qU rfl ?_; simp only [Act.put, List.setIfInBounds_toArray, List.set_cons_zero, List.set_cons_succ]) | (refine qW ?_ rfl rfl (fun w hC K hK => ?_) ?_; rotate_left; (focus ((go_wp2_with fail) <;> exact hK _ hC)); simp only [Act.put, List.setIfInBounds_toArray, List.set_cons_zero, List.set_cons_succ]))
  refine qC (fun w hC => Calls.cls hC (Cost_any w s hI b)) rfl (fun w => ?_) ?_
  · go_simp; try rfl
  simp only [Act.put, List.setIfInBounds_toArray, List.set_cons_zero, List.set_cons_succ]
  refine qR _ rfl rfl rfl (fun w hC => hC.blk b1) Try.underlying26 rfl (info_sq _) ?_
  simp only [Act.put, List.setIfInBounds_toArray, List.set_cons_zero, List.set_cons_succ]
  repeat (first | (refine qU rfl ?_; simp only [Act.put, List.setIfInBounds_toArray, List.set_cons_zero, List.set_cons_succ]) | (refine qW ?_ rfl rfl (fun w hC K hK => ?_) ?_; rotate_left; (focus ((go_wp2_with fail) <;> exact hK _ hC)); simp only [Act.put, List.setIfInBounds_toArray, List.set_cons_zero, List.set_cons_succ]))
  refine qC (fun w hC => Calls.cls hC (refCost_any w s hI b)) rfl (fun w => ?_) ?_
  · go_simp; try rfl
  simp only [Act.put, List.setIfInBounds_toArray, List.set_cons_zero, List.set_cons_succ]
  repeat (first | (refine qU rfl ?_; simp only [Act.put, List.setIfInBounds_toArray, List.set_cons_zero, List.set_cons_succ]) | (refine qW ?_ rfl rfl (fun w hC K hK => ?_) ?_; rotate_left; (focus ((go_wp2_with fail) <;> exact hK _ hC)); simp only [Act.put, List.setIfInBounds_toArray, List.set_cons_zero, List.set_cons_succ]))
  refine qN ?_
  intro w' hw'
  go_wp2_with fail
  go_ret
  exact ⟨rfl, o1.then hw'.only⟩
end Go.Proofs.Ytmghfhjiodeaeaa.vbvParts
