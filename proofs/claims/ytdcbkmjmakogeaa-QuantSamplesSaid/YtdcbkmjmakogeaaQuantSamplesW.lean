/- QuantSamples: the walk. -/
import Derived.Test.YtdcbkmjmakogeaaQs
namespace Go.Proofs.Ytdcbkmjmakogeaa.quantSamples
open Go.RowKit

set_option maxHeartbeats 2000000 in
set_option maxRecDepth 100000 in
theorem walk (w : World) (A : Option Addr) (c : Nat) (l : List Int) (hr : Reads w A 1 l.length (l.map (Value.int .i64))) (hm : l.length ≤ maxLen) (hb : ∀ z ∈ l, -9223372036854775808 ≤ z ∧ z ≤ 9223372036854775807)
    (A2 : Option Addr) (c2 : Nat) (p : List Nat) (hr2 : Reads w A2 1 p.length (p.map fun (b : Nat) => Value.int .u8 (b : Int))) (hm2 : p.length ≤ maxLen) (hp : ∀ x ∈ p, x < 256)
    (q : Int) (_hq : -9223372036854775808 ≤ q ∧ q ≤ 9223372036854775807) :
    Calls Try.prog 5 #[.slice A l.length c, .slice A2 p.length c2, .int .i64 q] w fun e w' => e = .returned (.bool true) ∧ Only [] w w' := by
  have hI := blockOf_I64 hb
  have hU := matOf_U8 hp
  generalize hx : blockOf l = x at hI
  generalize hmm : matOf p = m at hU
  have HX := Lib.hid hx
  have HM := Lib.hid hmm
  clear hx hmm hb hp
  go_enter Try.func5, Try.ntmps5
  go_wp2_with fail
  refine (block_any _ A c l hr hm).mono ?_
  rintro e w1 ⟨rfl, o1⟩
  rw [HX.out]
  go_wp2_with fail
  cases hin : inside x 255 64 with
  | false =>
    refine (refForward_out _ x hI hin).mono ?_
    rintro e w2 ⟨rfl, o2⟩
    go_wp2_with (first | (refine al64 rfl rfl ?_; rintro g3 w3 b3 o3 l3) | (refine sr64 b3 rfl rfl rfl rfl ?_; rintro w4 b4 o4 e4))
    have HO := ((o1.then o2).then o3).own o4 (by have := o1.size; have := o2.size; omega)
    clear hin
    refine (awake_any _).mono ?_
    rintro e wa ⟨rfl, oa⟩
    go_wp2_with fail
    go_ret
    exact ⟨rfl, HO.then oa⟩
  | true =>
    have hB : Bd x 255 := inside_true.1 hin
    have hJ := fw_I64 hB
    refine (refForward_in _ x hI hin).mono ?_
    rintro e w2 ⟨rfl, o2⟩
    go_wp2_with (first | (refine al64 rfl rfl ?_; rintro g3 w3 b3 o3 l3) | (refine sr64 b3 rfl rfl rfl rfl ?_; rintro w4 b4 o4 e4))
    have ho4 := ((o1.then o2).then o3).own o4 (by have := o1.size; have := o2.size; omega)
    clear hin o1 o2 o3 o4 b3
    refine (qmatrix_any _ A2 c2 p (hr2.then ho4) hm2).mono ?_
    rintro e w5 ⟨rfl, o5⟩
    rw [HM.out]
    go_wp2_with fail
    refine (may_any _ m q).mono ?_
    rintro e w6 ⟨rfl, o6⟩

    have ho6 := (ho4.then o5).then o6
    have b6 := (b4.only o5 (by simp)).only o6 (by simp)
    clear o5 o6 b4 ho4
    cases hmay : mayB m q with
    | false =>
      have HO := ho6
      clear hmay
      go_wp2_with fail
      refine (awake_any _).mono ?_
      rintro e wa ⟨rfl, oa⟩
      go_wp2_with fail
      go_ret
      exact ⟨rfl, HO.then oa⟩
    | true =>
      have HE := Lib.hid (goodQ (fw x) m q hmay (fw_level hB hU hmay))
      clear hmay
      go_wp2_with fail
      refine rgnS 30 _ (arr .i64 64 fun _ => 0) (arr .i64 64 (qz (fw x) m q)) 10 8 9 9 (by kernel_rfl) (by kernel_rfl) (by kernel_rfl) zero64 rfl (info_of_arr _) (by rw [arr_size, arr_size]) arr_one (by simp) ?_
      simp only [List.take_succ_cons, List.take_zero, List.drop_succ_cons, List.drop_zero]
      refine sR _ b6 rfl rfl rfl rfl rfl Try.underlying30 rfl (info_of_arr _) ?_
      simp only [Act.put, List.setIfInBounds_toArray, List.set_cons_zero, List.set_cons_succ]
      repeat (first | (refine sU rfl rfl rfl ?_; simp only [Act.put, List.setIfInBounds_toArray, List.set_cons_zero, List.set_cons_succ]) | (refine sW ?_ rfl rfl rfl rfl (fun w hC K hK => ?_) ?_; rotate_left; (focus ((go_wp2_with fail) <;> exact hK _ (Only.refl _ _))); simp only [Act.put, List.setIfInBounds_toArray, List.set_cons_zero, List.set_cons_succ]))
      refine sC (fun w hC => (qmatrix_any w A2 c2 p (hC.reads (hr2.then ho6)) hm2)) rfl rfl rfl (fun w => ?_) ?_
      · go_simp; try rfl
      simp only [Act.put, List.setIfInBounds_toArray, List.set_cons_zero, List.set_cons_succ]
      rw [HM.out]
      repeat (first | (refine sU rfl rfl rfl ?_; simp only [Act.put, List.setIfInBounds_toArray, List.set_cons_zero, List.set_cons_succ]) | (refine sW ?_ rfl rfl rfl rfl (fun w hC K hK => ?_) ?_; rotate_left; (focus ((go_wp2_with fail) <;> exact hK _ (Only.refl _ _))); simp only [Act.put, List.setIfInBounds_toArray, List.set_cons_zero, List.set_cons_succ]))
      refine sC (fun w hC => (quant_any w (fw x) m q hJ hU)) rfl rfl rfl (fun w => ?_) ?_
      · go_simp; try rfl
      simp only [Act.put, List.setIfInBounds_toArray, List.set_cons_zero, List.set_cons_succ]
      rw [HE.out.2]
      repeat (first | (refine sU rfl rfl rfl ?_; simp only [Act.put, List.setIfInBounds_toArray, List.set_cons_zero, List.set_cons_succ]) | (refine sW ?_ rfl rfl rfl rfl (fun w hC K hK => ?_) ?_; rotate_left; (focus ((go_wp2_with fail) <;> exact hK _ (Only.refl _ _))); simp only [Act.put, List.setIfInBounds_toArray, List.set_cons_zero, List.set_cons_succ]))
      refine sA rfl ?_
      refine sS _ rfl rfl rfl rfl rfl (by simp) rfl ?_
      refine sN ?_
      intro g2 w' hw' hbg2 hlg2
      simp only [List.setIfInBounds_toArray, List.set_cons_zero, List.set_cons_succ]
      have HO := ho6.then hw'.only
      go_wp2_with fail
      refine (awake_any _).mono ?_
      rintro e wa ⟨rfl, oa⟩
      go_wp2_with fail
      go_ret
      exact ⟨rfl, HO.then oa⟩
end Go.Proofs.Ytdcbkmjmakogeaa.quantSamples
