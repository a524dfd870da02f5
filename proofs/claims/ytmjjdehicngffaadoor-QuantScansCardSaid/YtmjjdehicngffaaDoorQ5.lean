/- The contract of chapter 6's sanity check. -/
import Derived.Test.YtmjjdehicngffaaDoorQ4
import Derived.Test.YtmjjdehicngffaaDoorRegS
namespace Go.Proofs.YtmjjdehicngffaaDoor
open Go.RowKit

def one256 : Nat → Int := upd (fun _ => 0) 0 256
theorem one_in : inside (lvs one256 flat 1) 4095 64 = true := by decide +kernel
theorem one_may : mayB flat 1 = true := by decide +kernel
theorem one_0 : lvs one256 flat 1 0 = 1 := by decide +kernel
theorem one_q : qz one256 flat 1 0 = 1 ∧ qe one256 flat 1 = 0 := by
  have := goodQ one256 flat 1 one_may one_in
  rw [this.1, this.2]; exact ⟨one_0, rfl⟩
theorem flat_U8 : U8 flat := fun _ _ => by unfold flat; omega
theorem St_1152 : St 16 2 9 = 1152 := by decide +kernel
theorem upd_I64 {x : Nat → Int} {j : Nat} {v : Int} (h : I64 64 x) (hv : -9223372036854775808 ≤ v ∧ v ≤ 9223372036854775807) : I64 64 (upd x j v) := by
  intro n hn
  unfold upd
  split
  · exact hv
  · exact h n hn
theorem awake_of (w : World) (x m : Nat → Int) (hm : arr .u8 64 flat = arr .u8 64 m) (hU : U8 m) (hI : I64 64 x) (hx : arr .i64 64 (upd (fun _ => 0) 0 256) = arr .i64 64 x) (q0 : qz x m 1 0 = 1) (e0 : qe x m 1 = 0) (s0 : St 16 2 9 = 1152) :
    Calls Tryd.prog 11 #[] w fun e w' => e = .returned (.bool true) ∧ Only [] w w' := by
  have HX := Lib.hid hx
  have HM := Lib.hid hm
  have Q0 := Lib.hid q0
  have E0 := Lib.hid e0
  have S0 := Lib.hid s0
  clear hx q0 e0 s0 hm

  go_enter Tryd.func11, Tryd.ntmps11
  go_wp2_with (refine al64 rfl rfl ?_; rintro g1 w1 b1 o1 l1; have c0 := b1.cell 0; rw [arr_get (by omega)] at c0; have f0 := b1.frozen 0)
  obtain ⟨s1, s2⟩ := b1.set1 0 (.int .i64 256)
  rw [arr_set _ (by omega), HX.out] at s1
  refine at_world (Φ := fun w2 => Blk w2 g1 23 (arr .i64 64 x) ∧ Only [] w w2) ⟨s1, o1.own s2 l1⟩ ?_
  rintro w2 ⟨b2, o2⟩
  clear s1 s2 b1 o1 c0 f0
  refine rgnS 23 _ (arr .i64 64 fun _ => 0) (arr .i64 64 (qz x m 1)) 8 6 7 2 (by kernel_rfl) (by kernel_rfl) (by kernel_rfl) zero64 rfl (info_of_arr _) (by rw [arr_size, arr_size]) arr_one (by simp) ?_
  simp only [List.take_succ_cons, List.take_zero, List.drop_succ_cons, List.drop_zero]
  refine sR _ b2 rfl rfl rfl rfl rfl Tryd.underlying23 rfl (info_of_arr _) ?_
  simp only [Act.put, List.setIfInBounds_toArray, List.set_cons_zero, List.set_cons_succ]
  refine sC (fun w hC => ((default_any w))) rfl rfl rfl (fun w => ?_) ?_
  · go_simp; try rfl
  simp only [Act.put, List.setIfInBounds_toArray, List.set_cons_zero, List.set_cons_succ]
  rw [HM.out]
  refine sC (fun w hC => (quant_any w x m 1 hI hU)) rfl rfl rfl (fun w => ?_) ?_
  · go_simp; try rfl
  simp only [Act.put, List.setIfInBounds_toArray, List.set_cons_zero, List.set_cons_succ]
  rw [E0.out]
  repeat (first | (refine sU rfl rfl rfl ?_; simp only [Act.put, List.setIfInBounds_toArray, List.set_cons_zero, List.set_cons_succ]) | (refine sW ?_ rfl rfl rfl rfl (fun w hC K hK => ?_) ?_; rotate_left; (focus ((go_wp2_with fail) <;> exact hK _ (Only.refl _ _))); simp only [Act.put, List.setIfInBounds_toArray, List.set_cons_zero, List.set_cons_succ]))
  refine sA rfl ?_
  refine sS _ rfl rfl rfl rfl rfl (by simp) rfl ?_
  refine sN ?_
  intro g2 w' hw' hbg2 hlg2
  simp only [List.setIfInBounds_toArray, List.set_cons_zero, List.set_cons_succ]
  have c0 := hbg2.cell 0
  rw [arr_get (by omega), Q0.out] at c0
  go_wp2_with fail
  refine (step_any _ 16 2 9).mono ?_
  rintro e w3 ⟨rfl, o3⟩
  rw [S0.out]
  go_wp2_with fail
  go_ret
  exact ⟨rfl, (o2.then hw'.only).then o3⟩
theorem awake_any (w : World) : Calls Tryd.prog 11 #[] w fun e w' => e = .returned (.bool true) ∧ Only [] w w' :=
  awake_of w one256 flat rfl flat_U8 (upd_I64 (fun _ _ => by simp) (by omega)) rfl one_q.1 one_q.2 St_1152
end Go.Proofs.YtmjjdehicngffaaDoor
