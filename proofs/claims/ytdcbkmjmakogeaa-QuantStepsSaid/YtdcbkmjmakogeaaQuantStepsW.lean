/- QuantSteps: the walk. -/
import Derived.Test.YtdcbkmjmakogeaaQs
namespace Go.Proofs.Ytdcbkmjmakogeaa.quantSteps
open Go.RowKit

set_option maxRecDepth 100000 in
theorem walk (w : World) (A2 : Option Addr) (c2 : Nat) (p : List Nat) (hr2 : Reads w A2 1 p.length (p.map fun (b : Nat) => Value.int .u8 (b : Int))) (hm2 : p.length ≤ maxLen) (_hp : ∀ x ∈ p, x < 256)
    (v : Int) (_hv : -9223372036854775808 ≤ v ∧ v ≤ 9223372036854775807) (q : Int) (_hq : -9223372036854775808 ≤ q ∧ q ≤ 9223372036854775807) (k : Int) (_hk : -9223372036854775808 ≤ k ∧ k ≤ 9223372036854775807) :
    Calls Try.prog 3 #[.slice A2 p.length c2, .int .i64 v, .int .i64 q, .int .i64 k] w fun e w' => e = .returned (.bool true) ∧ Only [] w w' := by
  generalize hmm : matOf p = m
  have HM := Lib.hid hmm
  clear hmm
  go_enter Try.func3, Try.ntmps3
  go_wp2_with fail
  refine (qmatrix_any _ A2 c2 p hr2 hm2).mono ?_
  rintro e w1 ⟨rfl, o1⟩
  rw [HM.out]
  go_wp2_with (first | (refine al8 rfl rfl ?_; rintro g2 w2 b2 o2 l2) | (refine sr8 b2 rfl rfl rfl rfl ?_; rintro w3 b3 o3 e3))
  have ho3 := (o1.then o2).own o3 (by have := o1.size; omega)
  clear o1 o2 o3 b2
  refine rgn (Cls w3) (by kernel_rfl) (by kernel_rfl) Cls.refl ?_
  refine qC (fun w hC => Calls.cls hC (awake_any w)) rfl (fun w => ?_) ?_
  · go_simp; try rfl
  simp only [Act.put, List.setIfInBounds_toArray, List.set_cons_zero, List.set_cons_succ]
  repeat (first | (refine qU rfl ?_; simp only [Act.put, List.setIfInBounds_toArray, List.set_cons_zero, List.set_cons_succ]) | (refine qW ?_ rfl rfl (fun w hC K hK => ?_) ?_; rotate_left; (focus ((go_wp2_with fail) <;> exact hK _ hC)); simp only [Act.put, List.setIfInBounds_toArray, List.set_cons_zero, List.set_cons_succ]))
  refine qC (fun w hC => Calls.cls hC (step_any w v q k)) rfl (fun w => ?_) ?_
  · go_simp; try rfl
  simp only [Act.put, List.setIfInBounds_toArray, List.set_cons_zero, List.set_cons_succ]
  repeat (first | (refine qU rfl ?_; simp only [Act.put, List.setIfInBounds_toArray, List.set_cons_zero, List.set_cons_succ]) | (refine qW ?_ rfl rfl (fun w hC K hK => ?_) ?_; rotate_left; (focus ((go_wp2_with fail) <;> exact hK _ hC)); simp only [Act.put, List.setIfInBounds_toArray, List.set_cons_zero, List.set_cons_succ]))
  refine qC (fun w hC => Calls.cls hC (refStep_any w v q k)) rfl (fun w => ?_) ?_
  · go_simp; try rfl
  simp only [Act.put, List.setIfInBounds_toArray, List.set_cons_zero, List.set_cons_succ]
  repeat (first | (refine qU rfl ?_; simp only [Act.put, List.setIfInBounds_toArray, List.set_cons_zero, List.set_cons_succ]) | (refine qW ?_ rfl rfl (fun w hC K hK => ?_) ?_; rotate_left; (focus ((go_wp2_with fail) <;> exact hK _ hC)); simp only [Act.put, List.setIfInBounds_toArray, List.set_cons_zero, List.set_cons_succ]))
  refine qR _ rfl rfl rfl (fun w hC => hC.blk b3) Try.underlying23 rfl (info_of_arr8 _) ?_
  simp only [Act.put, List.setIfInBounds_toArray, List.set_cons_zero, List.set_cons_succ]
  refine qC (fun w hC => Calls.cls hC (valid_any w m)) rfl (fun w => ?_) ?_
  · go_simp; try rfl
  simp only [Act.put, List.setIfInBounds_toArray, List.set_cons_zero, List.set_cons_succ]
  refine qR _ rfl rfl rfl (fun w hC => hC.blk b3) Try.underlying23 rfl (info_of_arr8 _) ?_
  simp only [Act.put, List.setIfInBounds_toArray, List.set_cons_zero, List.set_cons_succ]
  refine qC (fun w hC => Calls.cls hC (refValid_any w m)) rfl (fun w => ?_) ?_
  · go_simp; try rfl
  simp only [Act.put, List.setIfInBounds_toArray, List.set_cons_zero, List.set_cons_succ]
  repeat (first | (refine qU rfl ?_; simp only [Act.put, List.setIfInBounds_toArray, List.set_cons_zero, List.set_cons_succ]) | (refine qW ?_ rfl rfl (fun w hC K hK => ?_) ?_; rotate_left; (focus ((go_wp2_with fail) <;> exact hK _ hC)); simp only [Act.put, List.setIfInBounds_toArray, List.set_cons_zero, List.set_cons_succ]))
  refine qN ?_
  intro w' hw'
  go_wp2_with fail
  go_ret
  exact ⟨rfl, ho3.then hw'.only⟩
end Go.Proofs.Ytdcbkmjmakogeaa.quantSteps
