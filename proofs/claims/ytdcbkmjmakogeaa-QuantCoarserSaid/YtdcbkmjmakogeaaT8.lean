/- The contracts of the reference's Forward and Inverse. -/
import Derived.Test.YtdcbkmjmakogeaaT4
import Derived.Test.YtdcbkmjmakogeaaT5
import Derived.Test.YtdcbkmjmakogeaaT7
import Derived.Test.YtdcbkmjmakogeaaH64
namespace Go.Proofs.Ytdcbkmjmakogeaa
open Go.RowKit

set_option maxRecDepth 100000 in
theorem refForward_out (w : World) (x : Nat → Int) (hx : I64 64 x) (hi : inside x 255 64 = false) :
    Calls Try.prog 21 #[.agg (arr .i64 64 x)] w fun e w' => e = .returned (.tuple #[.agg (arr .i64 64 fun _ => 0), .int .i64 2]) ∧ Only [] w w' := by
  have HI := Lib.hid hi
  clear hi
  go_enter Try.func21, Try.ntmps21
  go_wp2_with (first | (refine bx64 (x := x) rfl rfl rfl ?_; rintro g1 w1 b1 o1 l1) | (refine al64 rfl rfl ?_; rintro g2 w2 b2 o2 l2))
  have hx2 := b1.only o2 (by simp)
  have ho2 := o1.then o2
  have hg := b1.lt
  have hg2 := b2.lt
  clear o1 o2 b1
  go_loop [4] (fun i => ∃ k : Nat, k ≤ 64 ∧ i = .int .i64 k ∧ inside x 255 k = true) (fun i => 64 - (intOf i).toNat)
  case atStart => exact ⟨0, by omega, rfl, rfl⟩
  case round =>
    obtain ⟨k, hk, rfl, hin⟩ := hrel
    have Hin := Lib.hid hin
    clear hin
    by_cases hlt : k < 64
    · have hd : decide ((k : Int) < 64) = true := by simp; omega
      have hc := hx2.cell k
      rw [arr_get hlt] at hc
      have hxk := hx k hlt
      by_cases h1 : x k < -255
      · have d1 : decide (x k < -255) = true := by simpa using h1
        go_wp2_with (first | refine bld64 rfl rfl ?_ | (refine sr64 b2 rfl rfl rfl rfl ?_; rintro w3 b3 o3 e3))
        exact bodyPost_ret (res2_64 rfl b3 rfl) rfl ⟨rfl, ho2.own o3 (by omega)⟩
      · have d1 : decide (x k < -255) = false := by simpa using h1
        by_cases h2 : 255 < x k
        · have d2 : decide (255 < x k) = true := by simpa using h2
          go_wp2_with (first | refine bld64 rfl rfl ?_ | (refine sr64 b2 rfl rfl rfl rfl ?_; rintro w3 b3 o3 e3))
          exact bodyPost_ret (res2_64 rfl b3 rfl) rfl ⟨rfl, ho2.own o3 (by omega)⟩
        · have d2 : decide (255 < x k) = false := by simpa using h2
          go_wp2_with fail
          exact ⟨⟨k + 1, by omega, by go_num, inside_succ Hin.out (by omega)⟩, by simp [intOf]; omega⟩
    · obtain rfl : k = 64 := by omega
      exact absurd Hin.out (by rw [HI.out]; simp)

set_option maxHeartbeats 1000000 in
set_option maxRecDepth 100000 in
theorem refForward_in (w : World) (x : Nat → Int) (hx : I64 64 x) (hi : inside x 255 64 = true) :
    Calls Try.prog 21 #[.agg (arr .i64 64 x)] w fun e w' => e = .returned (.tuple #[.agg (arr .i64 64 (fw x)), .int .i64 0]) ∧ Only [] w w' := by
  have HI := Lib.hid hi
  clear hi
  go_enter Try.func21, Try.ntmps21
  go_wp2_with (first | (refine bx64 (x := x) rfl rfl rfl ?_; rintro g1 w1 b1 o1 l1) | (refine al64 rfl rfl ?_; rintro g2 w2 b2 o2 l2))
  have hx2 := b1.only o2 (by simp)
  have ho2 := o1.then o2
  have hg := b1.lt
  have hg2 := b2.lt
  clear o1 o2 b1
  go_loop [4] (fun i => ∃ k : Nat, k ≤ 64 ∧ i = .int .i64 k ∧ inside x 255 k = true) (fun i => 64 - (intOf i).toNat)
  case atStart => exact ⟨0, by omega, rfl, rfl⟩
  case round =>
    obtain ⟨k, hk, rfl, hin⟩ := hrel
    have Hin := Lib.hid hin
    clear hin
    by_cases hlt : k < 64
    · have hd : decide ((k : Int) < 64) = true := by simp; omega
      have hc := hx2.cell k
      rw [arr_get hlt] at hc
      have hxk := hx k hlt
      have hb1 := inside_true.1 HI.out k hlt
      have d1 : decide (x k < -255) = false := by simp; omega
      have d2 : decide (255 < x k) = false := by simp; omega
      go_wp2_with fail
      exact ⟨⟨k + 1, by omega, by go_num, inside_succ Hin.out (by omega)⟩, by simp [intOf]; omega⟩
    · obtain rfl : k = 64 := by omega
      have hB : Bd x 255 := inside_true.1 Hin.out
      have hR : Bd (rowF x) 24480 := rowF_bd hB
      have tok : True := trivial
      go_wp2_with (first | (clear tok; refine al64 rfl rfl ?_; rintro g3 w3 b3 o3 l3) | (refine al64 rfl rfl ?_; rintro g4 w4 b4 o4 l4))
      have hx4 := (hx2.only o3 (by simp)).only o4 (by simp)
      have h24 := (b2.only o3 (by simp)).only o4 (by simp)
      have hr4 := b3.only o4 (by simp)
      have hy4 := b4
      have ho4 := (ho2.then o3).then o4
      have hg3 := b3.lt
      have hz3 := o3.size
      clear o3 o4 b3 b4 b2 hx2 ho2
      go_loopw [7] (fun i wr => ∃ k : Nat, k ≤ 8 ∧ i = .int .i64 k ∧ Only [] w wr ∧ Only [g3] w4 wr ∧ Blk wr g3 30 (arr .i64 64 (upto (8 * k) (rowF x)))) (fun i _ => 8 - (intOf i).toNat)
      case atStart => exact ⟨0, by omega, rfl, ho4, Only.refl _ _, by rw [arr_upto_zero]; exact hr4⟩
      case round =>
        obtain ⟨k, hk, rfl, ho, hoo, hb⟩ := hrel
        by_cases hlt : k < 8
        · have hd : decide ((k : Int) < 8) = true := by simp; omega
          obtain ⟨wa, rfl⟩ : ∃ wa, wa = wr := ⟨_, rfl⟩
          go_wp2_with fail
          go_loopw [8] (fun i wr => ∃ j : Nat, j ≤ 8 ∧ i = .int .i64 j ∧ Only [] w wr ∧ Only [g3] w4 wr ∧ Blk wr g3 30 (arr .i64 64 (upto (8 * k + j) (rowF x)))) (fun i _ => 8 - (intOf i).toNat)
          case atStart => exact ⟨0, by omega, rfl, ho, hoo, hb⟩
          case round =>
            obtain ⟨j, hj, rfl, ho', hoo', hb'⟩ := hrel
            by_cases hjl : j < 8
            · have hdj : decide ((j : Int) < 8) = true := by simp; omega
              obtain ⟨wb, rfl⟩ : ∃ wb, wb = wr := ⟨_, rfl⟩
              have Hat := Lib.hid ((rowF_at x k j hjl : rowF x (8 * k + j) = sumTo (fun l => T j l * x (8 * k + l)) 8))
              go_wp2_with fail
              go_loopw [9] (fun i wr => ∃ l : Nat, l ≤ 8 ∧ i = .int .i64 l ∧ Only [] w wr ∧ Only [g3] w4 wr ∧ Blk wr g3 30 (arr .i64 64 (uptoV (8 * k + j) (rowF x) (sumTo (fun l => T j l * x (8 * k + l)) l)))) (fun i _ => 8 - (intOf i).toNat)
              case atStart => exact ⟨0, by omega, rfl, ho', hoo', by rw [show sumTo (fun l => T j l * x (8 * k + l)) 0 = 0 from rfl, arr_uptoV_zero]; exact hb'⟩
              case round =>
                obtain ⟨l, hl, rfl, ho2, hoo2, hb2⟩ := hrel
                by_cases hll : l < 8
                · have hdl : decide ((l : Int) < 8) = true := by simp; omega
                  have c0 := hb2.cell (8 * k + j)
                  rw [arr_get (by omega), uptoV_at] at c0
                  have c1 := (hx4.only hoo2 (by simp; omega)).cell (8 * k + l)
                  rw [arr_get (by omega)] at c1
                  have hS := sumTo_bd (f := fun l => T j l * x (8 * k + l)) (B := 12 * 255) l (fun l hl => mulT_bd hjl (by omega) (hB _ (by omega)))
                  have hp : -(12 * 255) ≤ (fun l => T j l * x (8 * k + l)) l ∧ (fun l => T j l * x (8 * k + l)) l ≤ 12 * 255 := (fun l hl => mulT_bd hjl (by omega) (hB _ (by omega)) : ∀ l, l < 8 → -(12 * 255) ≤ (fun l => T j l * x (8 * k + l)) l ∧ (fun l => T j l * x (8 * k + l)) l ≤ 12 * 255) l hll
                  have Hs := Lib.hid (show sumTo (fun l => T j l * x (8 * k + l)) (l + 1) = sumTo (fun l => T j l * x (8 * k + l)) l + (fun l => T j l * x (8 * k + l)) l from rfl)
                  simp only at hp Hs
                  generalize sumTo (fun l => T j l * x (8 * k + l)) l = S at c0 hb2 hS Hs
                  have f0 : ∀ w', Cls wr w' → w'.cell? ⟨g3, 8 * k + j, none⟩ = some (.int .i64 S) := fun w' h => h.cell c0
                  have f1 : ∀ w', Cls wr w' → w'.cell? ⟨g1, 8 * k + l, none⟩ = some (.int .i64 (x (8 * k + l))) := fun w' h => h.cell c1
                  go_wp2_with fail
                  refine rgnT (Cls wr) 17 (by kernel_rfl) (by kernel_rfl) Cls.refl ?_
                  simp only [List.take_succ_cons, List.take_zero, List.drop_succ_cons, List.drop_zero]
                  repeat (first | (refine qU rfl ?_; simp only [Act.put, List.setIfInBounds_toArray, List.set_cons_zero, List.set_cons_succ]) | (refine qW ?_ rfl rfl (fun w hC K hK => ?_) ?_; rotate_left; (focus ((go_wp2_with fail) <;> exact hK _ hC)); simp only [Act.put, List.setIfInBounds_toArray, List.set_cons_zero, List.set_cons_succ]))
                  refine qC (fun w hC => Calls.cls hC (refBasis_in w j l hjl hll)) rfl (fun w => ?_) ?_
                  · go_simp; try rfl
                  simp only [Act.put, List.setIfInBounds_toArray, List.set_cons_zero, List.set_cons_succ]
                  repeat (first | (refine qU rfl ?_; simp only [Act.put, List.setIfInBounds_toArray, List.set_cons_zero, List.set_cons_succ]) | (refine qW ?_ rfl rfl (fun w hC K hK => ?_) ?_; rotate_left; (focus ((go_wp2_with fail) <;> exact hK _ hC)); simp only [Act.put, List.setIfInBounds_toArray, List.set_cons_zero, List.set_cons_succ]))
                  refine qN ?_
                  intro w' hw'
                  have hb3 := hw'.blk hb2
                  have c3 := hb3.cell (8 * k + j)
                  rw [arr_get (by omega), uptoV_at] at c3
                  have hfz := hb3.frozen (8 * k + j)
                  obtain ⟨s1, s2⟩ := hb3.set1 (8 * k + j) (.int .i64 (sumTo (fun l => T j l * x (8 * k + l)) (l + 1)))
                  rw [arr_set_uptoV (by omega)] at s1
                  have On := Lib.hid ((ho2.then hw'.only).own s2 (by omega))
                  have Onn := Lib.hid ((hoo2.then hw'.only).same s2)
                  have Hb := Lib.hid s1
                  rw [Hs.out] at On Onn Hb
                  clear s1 s2
                  go_wp2_with fail
                  exact ⟨⟨l + 1, by omega, by go_num, On.out, Onn.out, by rw [Hs.out]; exact Hb.out⟩, by simp [intOf]; omega⟩
                · obtain rfl : l = 8 := by omega
                  rw [← Hat.out, arr_uptoV_last] at hb2
                  go_wp2_with fail
                  exact ⟨⟨j + 1, by omega, by go_num, ho2, hoo2, hb2⟩, by simp [intOf]; omega⟩
            · obtain rfl : j = 8 := by omega
              have Hb := Lib.hid (show Blk wr g3 30 (arr .i64 64 (upto (8 * (k + 1)) (rowF x))) from by rw [show 8 * (k + 1) = 8 * k + 8 by omega]; exact hb')
              go_wp2_with fail
              exact ⟨⟨k + 1, by omega, by go_num, ho', hoo', Hb.out⟩, by simp [intOf]; omega⟩
        · obtain rfl : k = 8 := by omega
          rw [arr_upto_all (by omega)] at hb
          have hr5 := hb
          have h25 := h24.only hoo (by simp; omega)
          have hy5 := hy4.only hoo (by simp; omega)
          have ho5 := ho
          obtain ⟨w5, rfl⟩ : ∃ w5, w5 = wr := ⟨_, rfl⟩
          clear hb hoo ho h24 hy4 hx4 hr4
          go_wp2_with fail
          go_loopw [10] (fun i wr => ∃ k : Nat, k ≤ 8 ∧ i = .int .i64 k ∧ Only [] w wr ∧ Only [g4] w5 wr ∧ Blk wr g4 30 (arr .i64 64 (upto (8 * k) (fw x)))) (fun i _ => 8 - (intOf i).toNat)
          case atStart => exact ⟨0, by omega, rfl, ho5, Only.refl _ _, by rw [arr_upto_zero]; exact hy5⟩
          case round =>
            obtain ⟨k, hk, rfl, ho, hoo, hb⟩ := hrel
            by_cases hlt : k < 8
            · have hd : decide ((k : Int) < 8) = true := by simp; omega
              obtain ⟨wa, rfl⟩ : ∃ wa, wa = wr := ⟨_, rfl⟩
              go_wp2_with fail
              go_loopw [11] (fun i wr => ∃ j : Nat, j ≤ 8 ∧ i = .int .i64 j ∧ Only [] w wr ∧ Only [g4] w5 wr ∧ Blk wr g4 30 (arr .i64 64 (upto (8 * k + j) (fw x)))) (fun i _ => 8 - (intOf i).toNat)
              case atStart => exact ⟨0, by omega, rfl, ho, hoo, hb⟩
              case round =>
                obtain ⟨j, hj, rfl, ho', hoo', hb'⟩ := hrel
                by_cases hjl : j < 8
                · have hdj : decide ((j : Int) < 8) = true := by simp; omega
                  obtain ⟨wb, rfl⟩ : ∃ wb, wb = wr := ⟨_, rfl⟩
                  have Hat := Lib.hid ((fw_at x k j hjl : fw x (8 * k + j) = sumTo (fun l => T k l * rowF x (8 * l + j)) 8))
                  go_wp2_with fail
                  go_loopw [12] (fun i wr => ∃ l : Nat, l ≤ 8 ∧ i = .int .i64 l ∧ Only [] w wr ∧ Only [g4] w5 wr ∧ Blk wr g4 30 (arr .i64 64 (uptoV (8 * k + j) (fw x) (sumTo (fun l => T k l * rowF x (8 * l + j)) l)))) (fun i _ => 8 - (intOf i).toNat)
                  case atStart => exact ⟨0, by omega, rfl, ho', hoo', by rw [show sumTo (fun l => T k l * rowF x (8 * l + j)) 0 = 0 from rfl, arr_uptoV_zero]; exact hb'⟩
                  case round =>
                    obtain ⟨l, hl, rfl, ho2, hoo2, hb2⟩ := hrel
                    by_cases hll : l < 8
                    · have hdl : decide ((l : Int) < 8) = true := by simp; omega
                      have c0 := hb2.cell (8 * k + j)
                      rw [arr_get (by omega), uptoV_at] at c0
                      have c1 := (hr5.only hoo2 (by simp; omega)).cell (8 * l + j)
                      rw [arr_get (by omega)] at c1
                      have hS := sumTo_bd (f := fun l => T k l * rowF x (8 * l + j)) (B := 12 * 24480) l (fun l hl => mulT_bd hlt (by omega) (hR _ (by omega)))
                      have hp : -(12 * 24480) ≤ (fun l => T k l * rowF x (8 * l + j)) l ∧ (fun l => T k l * rowF x (8 * l + j)) l ≤ 12 * 24480 := (fun l hl => mulT_bd hlt (by omega) (hR _ (by omega)) : ∀ l, l < 8 → -(12 * 24480) ≤ (fun l => T k l * rowF x (8 * l + j)) l ∧ (fun l => T k l * rowF x (8 * l + j)) l ≤ 12 * 24480) l hll
                      have Hs := Lib.hid (show sumTo (fun l => T k l * rowF x (8 * l + j)) (l + 1) = sumTo (fun l => T k l * rowF x (8 * l + j)) l + (fun l => T k l * rowF x (8 * l + j)) l from rfl)
                      simp only at hp Hs
                      generalize sumTo (fun l => T k l * rowF x (8 * l + j)) l = S at c0 hb2 hS Hs
                      have f0 : ∀ w', Cls wr w' → w'.cell? ⟨g4, 8 * k + j, none⟩ = some (.int .i64 S) := fun w' h => h.cell c0
                      have f1 : ∀ w', Cls wr w' → w'.cell? ⟨g3, 8 * l + j, none⟩ = some (.int .i64 (rowF x (8 * l + j))) := fun w' h => h.cell c1
                      go_wp2_with fail
                      refine rgnT (Cls wr) 17 (by kernel_rfl) (by kernel_rfl) Cls.refl ?_
                      simp only [List.take_succ_cons, List.take_zero, List.drop_succ_cons, List.drop_zero]
                      repeat (first | (refine qU rfl ?_; simp only [Act.put, List.setIfInBounds_toArray, List.set_cons_zero, List.set_cons_succ]) | (refine qW ?_ rfl rfl (fun w hC K hK => ?_) ?_; rotate_left; (focus ((go_wp2_with fail) <;> exact hK _ hC)); simp only [Act.put, List.setIfInBounds_toArray, List.set_cons_zero, List.set_cons_succ]))
                      refine qC (fun w hC => Calls.cls hC (refBasis_in w k l hlt hll)) rfl (fun w => ?_) ?_
                      · go_simp; try rfl
                      simp only [Act.put, List.setIfInBounds_toArray, List.set_cons_zero, List.set_cons_succ]
                      repeat (first | (refine qU rfl ?_; simp only [Act.put, List.setIfInBounds_toArray, List.set_cons_zero, List.set_cons_succ]) | (refine qW ?_ rfl rfl (fun w hC K hK => ?_) ?_; rotate_left; (focus ((go_wp2_with fail) <;> exact hK _ hC)); simp only [Act.put, List.setIfInBounds_toArray, List.set_cons_zero, List.set_cons_succ]))
                      refine qN ?_
                      intro w' hw'
                      have hb3 := hw'.blk hb2
                      have c3 := hb3.cell (8 * k + j)
                      rw [arr_get (by omega), uptoV_at] at c3
                      have hfz := hb3.frozen (8 * k + j)
                      obtain ⟨s1, s2⟩ := hb3.set1 (8 * k + j) (.int .i64 (sumTo (fun l => T k l * rowF x (8 * l + j)) (l + 1)))
                      rw [arr_set_uptoV (by omega)] at s1
                      have On := Lib.hid ((ho2.then hw'.only).own s2 (by omega))
                      have Onn := Lib.hid ((hoo2.then hw'.only).same s2)
                      have Hb := Lib.hid s1
                      rw [Hs.out] at On Onn Hb
                      clear s1 s2
                      go_wp2_with fail
                      exact ⟨⟨l + 1, by omega, by go_num, On.out, Onn.out, by rw [Hs.out]; exact Hb.out⟩, by simp [intOf]; omega⟩
                    · obtain rfl : l = 8 := by omega
                      rw [← Hat.out, arr_uptoV_last] at hb2
                      go_wp2_with fail
                      exact ⟨⟨j + 1, by omega, by go_num, ho2, hoo2, hb2⟩, by simp [intOf]; omega⟩
                · obtain rfl : j = 8 := by omega
                  have Hb := Lib.hid (show Blk wr g4 30 (arr .i64 64 (upto (8 * (k + 1)) (fw x))) from by rw [show 8 * (k + 1) = 8 * k + 8 by omega]; exact hb')
                  go_wp2_with fail
                  exact ⟨⟨k + 1, by omega, by go_num, ho', hoo', Hb.out⟩, by simp [intOf]; omega⟩
            · obtain rfl : k = 8 := by omega
              rw [arr_upto_all (by omega)] at hb
              have h2 := h25.only hoo (by simp; omega)
              go_wp2_with (first | refine ld64 hb rfl rfl rfl ?_ | (refine sr64 h2 rfl rfl rfl rfl ?_; rintro w6 b6 o6 e6))
              exact bodyPost_ret (res2_64 rfl b6 rfl) rfl ⟨rfl, ho.own o6 (by omega)⟩

end Go.Proofs.Ytdcbkmjmakogeaa
