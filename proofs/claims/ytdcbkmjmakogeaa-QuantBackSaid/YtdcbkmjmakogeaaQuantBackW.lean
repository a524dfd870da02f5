/- QuantBack: the walk. -/
import Derived.Test.YtdcbkmjmakogeaaQs
namespace Go.Proofs.Ytdcbkmjmakogeaa.quantBack
open Go.RowKit

set_option maxHeartbeats 2000000 in
set_option maxRecDepth 100000 in
theorem walk (w : World) (A : Option Addr) (c : Nat) (l : List Int) (hr : Reads w A 1 l.length (l.map (Value.int .i64))) (hm : l.length ≤ maxLen) (hb : ∀ z ∈ l, -9223372036854775808 ≤ z ∧ z ≤ 9223372036854775807)
    (A2 : Option Addr) (c2 : Nat) (p : List Nat) (hr2 : Reads w A2 1 p.length (p.map fun (b : Nat) => Value.int .u8 (b : Int))) (hm2 : p.length ≤ maxLen) (hp : ∀ x ∈ p, x < 256)
    (q : Int) (_hq : -9223372036854775808 ≤ q ∧ q ≤ 9223372036854775807) :
    Calls Try.prog 7 #[.slice A l.length c, .slice A2 p.length c2, .int .i64 q] w fun e w' => e = .returned (.bool true) ∧ Only [] w w' := by
  have hI := blockOf_I64 hb
  have hU := matOf_U8 hp
  generalize hx : blockOf l = x at hI
  generalize hmm : matOf p = m at hU
  have HX := Lib.hid hx
  have HM := Lib.hid hmm
  clear hx hmm hb hp
  go_enter Try.func7, Try.ntmps7
  go_wp2_with fail
  refine (block_any _ A c l hr hm).mono ?_
  rintro e w1 ⟨rfl, o1⟩
  rw [HX.out]
  go_wp2_with fail
  refine (qmatrix_any _ A2 c2 p (hr2.then o1) hm2).mono ?_
  rintro e w2 ⟨rfl, o2⟩
  rw [HM.out]
  go_wp2_with fail
  refine (deq_any _ x m q hI hU).mono ?_
  rintro e w3 ⟨rfl, o3⟩
  have ho3 := (o1.then o2).then o3
  clear o1 o2 o3
  rcases d_cases x m q with ⟨hde, hdz, hmay, hin⟩ | hde | hde
  rotate_left
  · rw [hde]
    clear hde
    go_wp2_with (first | (refine al64 rfl rfl ?_; rintro g3 w4 b4 o4 l4) | (refine sr64 b4 rfl rfl rfl rfl ?_; rintro w5 b5 o5 e5))
    have HO := (ho3.then o4).own o5 (by have := ho3.size; omega)
    refine (awake_any _).mono ?_
    rintro e wa ⟨rfl, oa⟩
    go_wp2_with fail
    go_ret
    exact ⟨rfl, HO.then oa⟩
  · rw [hde]
    clear hde
    go_wp2_with (first | (refine al64 rfl rfl ?_; rintro g3 w4 b4 o4 l4) | (refine sr64 b4 rfl rfl rfl rfl ?_; rintro w5 b5 o5 e5))
    have HO := (ho3.then o4).own o5 (by have := ho3.size; omega)
    refine (awake_any _).mono ?_
    rintro e wa ⟨rfl, oa⟩
    go_wp2_with fail
    go_ret
    exact ⟨rfl, HO.then oa⟩
  rw [hde, hdz]
  go_wp2_with (first | (refine al64 rfl rfl ?_; rintro g3 w4 b4 o4 l4) | (refine sr64 b4 rfl rfl rfl rfl ?_; rintro w5 b5 o5 e5))
  have ho5 := (ho3.then o4).own o5 (by have := ho3.size; omega)
  clear o4 o5 b4 ho3
  have hJ : I64 64 (dqs x m q) := fun k hk => by have := dqs_bd hU hmay hin k hk; omega
  have hlv : inside (lvs (dqs x m q) m q) 4095 64 = true := inside_true.2 fun k hk => by rw [lvs_dqs hU hmay k hk]; exact inside_true.1 hin k hk
  have HE := Lib.hid (goodQ (dqs x m q) m q hmay hlv)
  have HA := Lib.hid (arr_congr (k := .i64) (n := 64) (x := lvs (dqs x m q) m q) (y := x) (fun k hk => lvs_dqs hU hmay k hk))
  clear hde hdz hlv hin hmay
  refine rgnS 30 _ (arr .i64 64 fun _ => 0) (arr .i64 64 (x)) 10 8 9 9 (by kernel_rfl) (by kernel_rfl) (by kernel_rfl) zero64 rfl (info_of_arr _) (by rw [arr_size, arr_size]) arr_one (by simp) ?_
  simp only [List.take_succ_cons, List.take_zero, List.drop_succ_cons, List.drop_zero]
  refine sR _ b5 rfl rfl rfl rfl rfl Try.underlying30 rfl (info_of_arr _) ?_
  simp only [Act.put, List.setIfInBounds_toArray, List.set_cons_zero, List.set_cons_succ]
  repeat (first | (refine sU rfl rfl rfl ?_; simp only [Act.put, List.setIfInBounds_toArray, List.set_cons_zero, List.set_cons_succ]) | (refine sW ?_ rfl rfl rfl rfl (fun w hC K hK => ?_) ?_; rotate_left; (focus ((go_wp2_with fail) <;> exact hK _ (Only.refl _ _))); simp only [Act.put, List.setIfInBounds_toArray, List.set_cons_zero, List.set_cons_succ]))
  refine sC (fun w hC => (qmatrix_any w A2 c2 p (hC.reads (hr2.then ho5)) hm2)) rfl rfl rfl (fun w => ?_) ?_
  · go_simp; try rfl
  simp only [Act.put, List.setIfInBounds_toArray, List.set_cons_zero, List.set_cons_succ]
  rw [HM.out]
  repeat (first | (refine sU rfl rfl rfl ?_; simp only [Act.put, List.setIfInBounds_toArray, List.set_cons_zero, List.set_cons_succ]) | (refine sW ?_ rfl rfl rfl rfl (fun w hC K hK => ?_) ?_; rotate_left; (focus ((go_wp2_with fail) <;> exact hK _ (Only.refl _ _))); simp only [Act.put, List.setIfInBounds_toArray, List.set_cons_zero, List.set_cons_succ]))
  refine sC (fun w hC => (quant_any w (dqs x m q) m q hJ hU)) rfl rfl rfl (fun w => ?_) ?_
  · go_simp; try rfl
  simp only [Act.put, List.setIfInBounds_toArray, List.set_cons_zero, List.set_cons_succ]
  rw [HE.out.2, HE.out.1, HA.out]
  repeat (first | (refine sU rfl rfl rfl ?_; simp only [Act.put, List.setIfInBounds_toArray, List.set_cons_zero, List.set_cons_succ]) | (refine sW ?_ rfl rfl rfl rfl (fun w hC K hK => ?_) ?_; rotate_left; (focus ((go_wp2_with fail) <;> exact hK _ (Only.refl _ _))); simp only [Act.put, List.setIfInBounds_toArray, List.set_cons_zero, List.set_cons_succ]))
  refine sA rfl ?_
  refine sS _ rfl rfl rfl rfl rfl (by simp) rfl ?_
  refine sN ?_
  intro g2 w' hw' hbg2 hlg2
  simp only [List.setIfInBounds_toArray, List.set_cons_zero, List.set_cons_succ]
  have HO := ho5.then hw'.only
  have heq := eql64_self x
  go_wp2_with fail
  refine rgn (Cls w') (by kernel_rfl) (by kernel_rfl) Cls.refl ?_
  refine qC (fun w hC => Calls.cls hC (awake_any w)) rfl (fun w => ?_) ?_
  · go_simp; try rfl
  simp only [Act.put, List.setIfInBounds_toArray, List.set_cons_zero, List.set_cons_succ]
  repeat (first | (refine qU rfl ?_; simp only [Act.put, List.setIfInBounds_toArray, List.set_cons_zero, List.set_cons_succ]) | (refine qW ?_ rfl rfl (fun w hC K hK => ?_) ?_; rotate_left; (focus ((go_wp2_with fail) <;> exact hK _ hC)); simp only [Act.put, List.setIfInBounds_toArray, List.set_cons_zero, List.set_cons_succ]))
  refine qR _ rfl rfl rfl (fun w hC => hC.blk hbg2) Try.underlying30 rfl (info_of_arr _) ?_
  simp only [Act.put, List.setIfInBounds_toArray, List.set_cons_zero, List.set_cons_succ]
  repeat (first | (refine qU rfl ?_; simp only [Act.put, List.setIfInBounds_toArray, List.set_cons_zero, List.set_cons_succ]) | (refine qW ?_ rfl rfl (fun w hC K hK => ?_) ?_; rotate_left; (focus ((go_wp2_with fail) <;> exact hK _ hC)); simp only [Act.put, List.setIfInBounds_toArray, List.set_cons_zero, List.set_cons_succ]))
  refine qC (fun w hC => Calls.cls hC (block_any w A c l (hC.reads (hr.then HO)) hm)) rfl (fun w => ?_) ?_
  · go_simp; try rfl
  simp only [Act.put, List.setIfInBounds_toArray, List.set_cons_zero, List.set_cons_succ]
  rw [HX.out]
  repeat (first | (refine qU rfl ?_; simp only [Act.put, List.setIfInBounds_toArray, List.set_cons_zero, List.set_cons_succ]) | (refine qW ?_ rfl rfl (fun w hC K hK => ?_) ?_; rotate_left; (focus ((go_wp2_with fail) <;> exact hK _ hC)); simp only [Act.put, List.setIfInBounds_toArray, List.set_cons_zero, List.set_cons_succ]))
  refine qN ?_
  intro wz hwz
  go_wp2_with fail
  go_ret
  exact ⟨rfl, HO.then hwz.only⟩
end Go.Proofs.Ytdcbkmjmakogeaa.quantBack
