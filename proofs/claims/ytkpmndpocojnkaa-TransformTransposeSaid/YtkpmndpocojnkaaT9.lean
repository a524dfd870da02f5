/- The contract of the reference's Inverse. -/
import Derived.Test.YtkpmndpocojnkaaT8
namespace Go.Proofs.Ytkpmndpocojnkaa
open Go.RowKit

theorem arr_upd_upd {n m : Nat} {x : Nat → Int} {u v : Int} : arr .i64 n (upd (upd x m u) m v) = arr .i64 n (upd x m v) := arr_congr (fun j _ => by unfold upd; split <;> rfl)
theorem quo_neg (S : Int) (h : (273681612800 + S).tmod 547363225600 < 0) : (273681612800 + S).tdiv 547363225600 - 1 = near S := by
  rw [Int.tmod_eq_emod] at h
  rw [Int.tdiv_eq_ediv]
  unfold near
  split at h
  · omega
  · rename_i hn
    rw [if_neg hn]
    have : Int.sign 547363225600 = 1 := rfl
    omega
theorem quo_pos (S : Int) (h : ¬ (273681612800 + S).tmod 547363225600 < 0) : (273681612800 + S).tdiv 547363225600 = near S := by
  rw [Int.tmod_eq_emod] at h
  rw [Int.tdiv_eq_ediv]
  unfold near
  split at h
  · rename_i hn
    rw [if_pos hn]; omega
  · rename_i hn
    have : Int.sign 547363225600 = 1 := rfl
    rw [if_neg hn]
    omega
theorem quo_bd (S : Int) (h : -50000000000000000 ≤ S ∧ S ≤ 50000000000000000) : -100000000 ≤ (273681612800 + S).tdiv 547363225600 ∧ (273681612800 + S).tdiv 547363225600 ≤ 100000000 := by
  rw [Int.tdiv_eq_ediv]
  have : Int.sign 547363225600 = 1 := rfl
  split <;> omega

set_option maxHeartbeats 1000000 in
set_option maxRecDepth 100000 in
theorem refInverse_any (w : World) (x : Nat → Int) :
    Calls Try.prog 17 #[.agg (arr .i64 64 x)] w fun e w' => e = .returned (.agg (arr .i64 64 (inv x))) ∧ Only [] w w' := by
  go_enter Try.func17, Try.ntmps17
  have tok2 : True := trivial
  have tok3 : True := trivial
  go_wp2_with (first | (refine bx64 (x := x) rfl rfl rfl ?_; rintro g1 w1 b1 o1 l1) | (clear tok2; refine al64 rfl rfl ?_; rintro g2 w2 b2 o2 l2) | (clear tok3; refine al64 rfl rfl ?_; rintro g3 w3 b3 o3 l3) | (refine al64 rfl rfl ?_; rintro g4 w4 b4 o4 l4))
  have hx4 := ((b1.only o2 (by simp)).only o3 (by simp)).only o4 (by simp)
  have h24 := (b2.only o3 (by simp)).only o4 (by simp)
  have hr4 := b3.only o4 (by simp)
  have hy4 := b4
  have ho4 := ((o1.then o2).then o3).then o4
  have hg := b1.lt
  have hg2 := b2.lt
  have hg3 := b3.lt
  have hz1 := o1.size
  have hz2 := o2.size
  have hz3 := o3.size
  clear o1 o2 o3 o4 b1 b2 b3 b4
  go_loopw [5] (fun i wr => ∃ k : Nat, k ≤ 8 ∧ i = .int .i64 k ∧ Only [] w wr ∧ Only [g3] w4 wr ∧ Blk wr g3 23 (arr .i64 64 (upto (8 * k) (rowI x)))) (fun i _ => 8 - (intOf i).toNat)
  case atStart => exact ⟨0, by omega, rfl, ho4, Only.refl _ _, by rw [arr_upto_zero]; exact hr4⟩
  case round =>
    obtain ⟨k, hk, rfl, ho, hoo, hb⟩ := hrel
    by_cases hlt : k < 8
    · have hd : decide ((k : Int) < 8) = true := by simp; omega
      obtain ⟨wa, rfl⟩ : ∃ wa, wa = wr := ⟨_, rfl⟩
      go_wp2_with fail
      go_loopw [6] (fun i wr => ∃ j : Nat, j ≤ 8 ∧ i = .int .i64 j ∧ Only [] w wr ∧ Only [g3] w4 wr ∧ Blk wr g3 23 (arr .i64 64 (upto (8 * k + j) (rowI x)))) (fun i _ => 8 - (intOf i).toNat)
      case atStart => exact ⟨0, by omega, rfl, ho, hoo, hb⟩
      case round =>
        obtain ⟨j, hj, rfl, ho', hoo', hb'⟩ := hrel
        by_cases hjl : j < 8
        · have hdj : decide ((j : Int) < 8) = true := by simp; omega
          obtain ⟨wb, rfl⟩ : ∃ wb, wb = wr := ⟨_, rfl⟩
          have Hat := Lib.hid ((rowI_at x k j hjl : rowI x (8 * k + j) = sumTo (fun l => T l j * Mm l * cl (x (8 * k + l))) 8))
          go_wp2_with fail
          go_loopw [7] (fun i wr => ∃ l : Nat, l ≤ 8 ∧ i = .int .i64 l ∧ Only [] w wr ∧ Only [g3] w4 wr ∧ Blk wr g3 23 (arr .i64 64 (uptoV (8 * k + j) (rowI x) (sumTo (fun l => T l j * Mm l * cl (x (8 * k + l))) l)))) (fun i _ => 8 - (intOf i).toNat)
          case atStart => exact ⟨0, by omega, rfl, ho', hoo', by rw [show sumTo (fun l => T l j * Mm l * cl (x (8 * k + l))) 0 = 0 from rfl, arr_uptoV_zero]; exact hb'⟩
          case round =>
            obtain ⟨l, hl, rfl, ho2, hoo2, hb2⟩ := hrel
            by_cases hll : l < 8
            · have hdl : decide ((l : Int) < 8) = true := by simp; omega
              have c0 := hb2.cell (8 * k + j)
              rw [arr_get (by omega), uptoV_at] at c0
              have c1 := (hx4.only hoo2 (by simp; omega)).cell (8 * k + l)
              rw [arr_get (by omega)] at c1
              have hS := sumTo_bd (f := fun l => T l j * Mm l * cl (x (8 * k + l))) (B := 18496 * 2097152) l (fun l hl => mul_bd (TM_bd (by omega) hjl) (cl_bd _))
              have hp : -(18496 * 2097152) ≤ (fun l => T l j * Mm l * cl (x (8 * k + l))) l ∧ (fun l => T l j * Mm l * cl (x (8 * k + l))) l ≤ 18496 * 2097152 := (fun l hl => mul_bd (TM_bd (by omega) hjl) (cl_bd _) : ∀ l, l < 8 → -(18496 * 2097152) ≤ (fun l => T l j * Mm l * cl (x (8 * k + l))) l ∧ (fun l => T l j * Mm l * cl (x (8 * k + l))) l ≤ 18496 * 2097152) l hll
              have Hs := Lib.hid (show sumTo (fun l => T l j * Mm l * cl (x (8 * k + l))) (l + 1) = sumTo (fun l => T l j * Mm l * cl (x (8 * k + l))) l + (fun l => T l j * Mm l * cl (x (8 * k + l))) l from rfl)
              simp only at hp Hs
              generalize sumTo (fun l => T l j * Mm l * cl (x (8 * k + l))) l = S at c0 hb2 hS Hs
              have f0 : ∀ w', Cls wr w' → w'.cell? ⟨g3, 8 * k + j, none⟩ = some (.int .i64 S) := fun w' h => h.cell c0
              have f1 : ∀ w', Cls wr w' → w'.cell? ⟨g1, 8 * k + l, none⟩ = some (.int .i64 (x (8 * k + l))) := fun w' h => h.cell c1
              have hcl := cl_bd (x (8 * k + l))
              obtain ⟨q1, q2, q3, q4, q5⟩ := quoM ⟨l, hll⟩
              simp only at q1 q2 q3 q4 q5
              have z1 : (Nm l == 0) = false := by simp; omega
              have y1 : ¬ Nm l = 0 := by omega
              have hT := TM_bd hll hjl
              have hT2 := T_bd hll hjl
              go_wp2_with fail
              refine rgnT (Cls wr) 22 (by kernel_rfl) (by kernel_rfl) Cls.refl ?_
              simp only [List.take_succ_cons, List.take_zero, List.drop_succ_cons, List.drop_zero]
              repeat (first | (refine qU rfl ?_; simp only [Act.put, List.setIfInBounds_toArray, List.set_cons_zero, List.set_cons_succ]) | (refine qW ?_ rfl rfl (fun w hC K hK => ?_) ?_; rotate_left; (focus ((go_wp2_with fail) <;> exact hK _ hC)); simp only [Act.put, List.setIfInBounds_toArray, List.set_cons_zero, List.set_cons_succ]))
              refine qC (fun w hC => Calls.cls hC (refBasis_in w l j hll hjl)) rfl (fun w => ?_) ?_
              · go_simp; try rfl
              simp only [Act.put, List.setIfInBounds_toArray, List.set_cons_zero, List.set_cons_succ]
              repeat (first | (refine qU rfl ?_; simp only [Act.put, List.setIfInBounds_toArray, List.set_cons_zero, List.set_cons_succ]) | (refine qW ?_ rfl rfl (fun w hC K hK => ?_) ?_; rotate_left; (focus ((go_wp2_with fail) <;> exact hK _ hC)); simp only [Act.put, List.setIfInBounds_toArray, List.set_cons_zero, List.set_cons_succ]))
              refine qC (fun w hC => Calls.cls hC (refNorm_in w l hll)) rfl (fun w => ?_) ?_
              · go_simp; try rfl
              simp only [Act.put, List.setIfInBounds_toArray, List.set_cons_zero, List.set_cons_succ]
              repeat (first | (refine qU rfl ?_; simp only [Act.put, List.setIfInBounds_toArray, List.set_cons_zero, List.set_cons_succ]) | (refine qW ?_ rfl rfl (fun w hC K hK => ?_) ?_; rotate_left; (focus ((go_wp2_with fail) <;> exact hK _ hC)); simp only [Act.put, List.setIfInBounds_toArray, List.set_cons_zero, List.set_cons_succ]))
              refine qC (fun w hC => Calls.cls_same hC (clamp_any w (x (8 * k + l)))) rfl (fun w => ?_) ?_
              · go_simp; try rfl
              simp only [Act.put, List.setIfInBounds_toArray, List.set_cons_zero, List.set_cons_succ]
              repeat (first | (refine qU rfl ?_; simp only [Act.put, List.setIfInBounds_toArray, List.set_cons_zero, List.set_cons_succ]) | (refine qW ?_ rfl rfl (fun w hC K hK => ?_) ?_; rotate_left; (focus ((go_wp2_with fail) <;> exact hK _ hC)); simp only [Act.put, List.setIfInBounds_toArray, List.set_cons_zero, List.set_cons_succ]))
              refine qN ?_
              intro w' hw'
              have hb3 := hw'.blk hb2
              have c3 := hb3.cell (8 * k + j)
              rw [arr_get (by omega), uptoV_at] at c3
              have hfz := hb3.frozen (8 * k + j)
              obtain ⟨s1, s2⟩ := hb3.set1 (8 * k + j) (.int .i64 (sumTo (fun l => T l j * Mm l * cl (x (8 * k + l))) (l + 1)))
              rw [arr_set_uptoV (by omega)] at s1
              have On := Lib.hid ((ho2.then hw'.only).own s2 (by omega))
              have Onn := Lib.hid ((hoo2.then hw'.only).same s2)
              have Hb := Lib.hid s1
              rw [Hs.out] at On Onn Hb
              clear s1 s2
              go_wp2_with fail
              exact ⟨⟨l + 1, by omega, by go_num, On.out, Onn.out, by rw [Hs.out]; exact Hb.out⟩, by simp [intOf]; omega⟩
            · obtain rfl : l = 8 := by omega
              rw [← Hat.out, arr_uptoV_last] at hb2
              go_wp2_with fail
              exact ⟨⟨j + 1, by omega, by go_num, ho2, hoo2, hb2⟩, by simp [intOf]; omega⟩
        · obtain rfl : j = 8 := by omega
          have Hb := Lib.hid (show Blk wr g3 23 (arr .i64 64 (upto (8 * (k + 1)) (rowI x))) from by rw [show 8 * (k + 1) = 8 * k + 8 by omega]; exact hb')
          go_wp2_with fail
          exact ⟨⟨k + 1, by omega, by go_num, ho', hoo', Hb.out⟩, by simp [intOf]; omega⟩
    · obtain rfl : k = 8 := by omega
      rw [arr_upto_all (by omega)] at hb
      have hr5 := hb
      have h25 := h24.only hoo (by simp; omega)
      have hy5 := hy4.only hoo (by simp; omega)
      have ho5 := ho
      obtain ⟨w5, rfl⟩ : ∃ w5, w5 = wr := ⟨_, rfl⟩
      clear hb hoo ho h24 hy4 hx4 hr4
      go_wp2_with fail
      go_loopw [8] (fun i wr => ∃ k : Nat, k ≤ 8 ∧ i = .int .i64 k ∧ Only [] w wr ∧ Only [g4] w5 wr ∧ Blk wr g4 23 (arr .i64 64 (upto (8 * k) (inv x)))) (fun i _ => 8 - (intOf i).toNat)
      case atStart => exact ⟨0, by omega, rfl, ho5, Only.refl _ _, by rw [arr_upto_zero]; exact hy5⟩
      case round =>
        obtain ⟨k, hk, rfl, ho, hoo, hb⟩ := hrel
        by_cases hlt : k < 8
        · have hd : decide ((k : Int) < 8) = true := by simp; omega
          obtain ⟨wa, rfl⟩ : ∃ wa, wa = wr := ⟨_, rfl⟩
          go_wp2_with fail
          go_loopw [9] (fun i wr => ∃ j : Nat, j ≤ 8 ∧ i = .int .i64 j ∧ Only [] w wr ∧ Only [g4] w5 wr ∧ Blk wr g4 23 (arr .i64 64 (upto (8 * k + j) (inv x)))) (fun i _ => 8 - (intOf i).toNat)
          case atStart => exact ⟨0, by omega, rfl, ho, hoo, hb⟩
          case round =>
            obtain ⟨j, hj, rfl, ho', hoo', hb'⟩ := hrel
            by_cases hjl : j < 8
            · have hdj : decide ((j : Int) < 8) = true := by simp; omega
              obtain ⟨wb, rfl⟩ : ∃ wb, wb = wr := ⟨_, rfl⟩
              go_wp2_with fail
              go_loopw [10, 11] (fun s i wr => ∃ l : Nat, l ≤ 8 ∧ i = .int .i64 l ∧ s = .int .i64 (273681612800 + sumTo (fun l => T l k * Mm l * rowI x (8 * l + j)) l) ∧ Only [] wb wr) (fun _ i _ => 8 - (intOf i).toNat)
              case atStart => exact ⟨0, by omega, rfl, rfl, Only.refl _ _⟩
              case round =>
                obtain ⟨l, hl, rfl, rfl, ol⟩ := hrel
                by_cases hll : l < 8
                · have hdl : decide ((l : Int) < 8) = true := by simp; omega
                  have c1 := ((hr5.only hoo' (by simp; omega)).only ol (by simp)).cell (8 * l + j)
                  rw [arr_get (by omega)] at c1
                  have hS := sumTo_bd (f := fun l => T l k * Mm l * rowI x (8 * l + j)) (B := 18496 * 310311387136) l (fun l hl => mul_bd (TM_bd (by omega) hlt) (rowI_bd x _ (by omega)))
                  have hp := mul_bd (TM_bd hll hlt) (rowI_bd x (8 * l + j) (by omega))
                  have Hs := Lib.hid (show sumTo (fun l => T l k * Mm l * rowI x (8 * l + j)) (l + 1) = sumTo (fun l => T l k * Mm l * rowI x (8 * l + j)) l + (fun l => T l k * Mm l * rowI x (8 * l + j)) l from rfl)
                  simp only at Hs
                  generalize sumTo (fun l => T l k * Mm l * rowI x (8 * l + j)) l = S at hS Hs
                  have f1 : ∀ w', Cls wr w' → w'.cell? ⟨g3, 8 * l + j, none⟩ = some (.int .i64 (rowI x (8 * l + j))) := fun w' h => h.cell c1
                  obtain ⟨q1, q2, q3, q4, q5⟩ := quoM ⟨l, hll⟩
                  simp only at q1 q2 q3 q4 q5
                  have z1 : (Nm l == 0) = false := by simp; omega
                  have y1 : ¬ Nm l = 0 := by omega
                  have hT := TM_bd hll hlt
                  have hT2 := T_bd hll hlt
                  go_wp2_with fail
                  refine rgn (Cls wr) (by kernel_rfl) (by kernel_rfl) Cls.refl ?_
                  repeat (first | (refine qU rfl ?_; simp only [Act.put, List.setIfInBounds_toArray, List.set_cons_zero, List.set_cons_succ]) | (refine qW ?_ rfl rfl (fun w hC K hK => ?_) ?_; rotate_left; (focus ((go_wp2_with fail) <;> exact hK _ hC)); simp only [Act.put, List.setIfInBounds_toArray, List.set_cons_zero, List.set_cons_succ]))
                  refine qC (fun w hC => Calls.cls hC (refBasis_in w l k hll hlt)) rfl (fun w => ?_) ?_
                  · go_simp; try rfl
                  simp only [Act.put, List.setIfInBounds_toArray, List.set_cons_zero, List.set_cons_succ]
                  repeat (first | (refine qU rfl ?_; simp only [Act.put, List.setIfInBounds_toArray, List.set_cons_zero, List.set_cons_succ]) | (refine qW ?_ rfl rfl (fun w hC K hK => ?_) ?_; rotate_left; (focus ((go_wp2_with fail) <;> exact hK _ hC)); simp only [Act.put, List.setIfInBounds_toArray, List.set_cons_zero, List.set_cons_succ]))
                  refine qC (fun w hC => Calls.cls hC (refNorm_in w l hll)) rfl (fun w => ?_) ?_
                  · go_simp; try rfl
                  simp only [Act.put, List.setIfInBounds_toArray, List.set_cons_zero, List.set_cons_succ]
                  repeat (first | (refine qU rfl ?_; simp only [Act.put, List.setIfInBounds_toArray, List.set_cons_zero, List.set_cons_succ]) | (refine qW ?_ rfl rfl (fun w hC K hK => ?_) ?_; rotate_left; (focus ((go_wp2_with fail) <;> exact hK _ hC)); simp only [Act.put, List.setIfInBounds_toArray, List.set_cons_zero, List.set_cons_succ]))
                  refine qN ?_
                  intro w' hw'
                  go_wp2_with fail
                  exact ⟨⟨l + 1, by omega, by go_num, congrArg (Value.int IntKind.i64) (by rw [Hs.out]; omega), ol.then hw'.only⟩, by simp [intOf]; omega⟩
                · obtain rfl : l = 8 := by omega
                  have hS := sumTo_bd (f := fun l => T l k * Mm l * rowI x (8 * l + j)) (B := 18496 * 310311387136) 8 (fun l hl => mul_bd (TM_bd (by omega) hlt) (rowI_bd x _ (by omega)))
                  have hv : inv x (8 * k + j) = near (sumTo (fun l => T l k * Mm l * rowI x (8 * l + j)) 8) := by unfold inv; rw [sumI_at x k j hjl]
                  have Hv := Lib.hid hv
                  clear hv
                  have hb2 := hb'.only ol (by simp)
                  have ho2 := ho'.then ol
                  have hoo2 := hoo'.then ol
                  generalize sumTo (fun l => T l k * Mm l * rowI x (8 * l + j)) 8 = S at hS Hv
                  have hcg := hb2.cell (8 * k + j)
                  rw [arr_get (by omega)] at hcg
                  have hfz := hb2.frozen (8 * k + j)
                  obtain ⟨s1, s2⟩ := hb2.set1 (8 * k + j) (.int .i64 ((273681612800 + S).tdiv 547363225600))
                  have on1 := ho2.own s2 (by omega)
                  have oo1 := hoo2.same s2
                  by_cases hneg : (273681612800 + S).tmod 547363225600 < 0
                  · have hdn : decide ((273681612800 + S).tmod 547363225600 < 0) = true := by simpa using hneg
                    have Hq := Lib.hid (quo_neg S hneg)
                    have hq1 : -100000000 ≤ (273681612800 + S).tdiv 547363225600 ∧ (273681612800 + S).tdiv 547363225600 ≤ 100000000 := quo_bd S (by omega)
                    obtain ⟨s3, s4⟩ := s1.set1 (8 * k + j) (.int .i64 ((273681612800 + S).tdiv 547363225600 - 1))
                    have On := Lib.hid (on1.own s4 (by omega))
                    have Onn := Lib.hid (oo1.same s4)
                    have c4 := s1.cell (8 * k + j)
                    rw [arr_set _ (by omega), arr_get (by omega)] at c4
                    simp only [upd, if_true] at c4
                    have fz4 := s1.frozen (8 * k + j)
                    have Hb := Lib.hid s3
                    clear s1 s2 s3 s4 on1 oo1 hneg
                    go_wp2_with fail
                    refine ⟨⟨j + 1, by omega, by go_num, On.out, Onn.out, ?_⟩, by simp [intOf]; omega⟩
                    have e : ((arr .i64 64 (upto (8 * k + j) (inv x))).setIfInBounds (8 * k + j) (.int .i64 ((273681612800 + S).tdiv 547363225600))).setIfInBounds (8 * k + j) (.int .i64 ((273681612800 + S).tdiv 547363225600 - 1)) = arr .i64 64 (upto (8 * k + (j + 1)) (inv x)) := by
                      rw [Hq.out, arr_set _ (by omega), arr_set _ (by omega), arr_upd_upd, ← arr_set _ (by omega), arr_set_upto (by omega) Hv.out]; rfl
                    rw [← e]
                    exact Hb.out
                  · have hdn : decide ((273681612800 + S).tmod 547363225600 < 0) = false := by simpa using hneg
                    have Hq := Lib.hid (quo_pos S hneg)
                    have On := Lib.hid on1
                    have Onn := Lib.hid oo1
                    have Hb := Lib.hid s1
                    clear s1 s2 on1 oo1 hneg
                    go_wp2_with fail
                    refine ⟨⟨j + 1, by omega, by go_num, On.out, Onn.out, ?_⟩, by simp [intOf]; omega⟩
                    have e : (arr .i64 64 (upto (8 * k + j) (inv x))).setIfInBounds (8 * k + j) (.int .i64 ((273681612800 + S).tdiv 547363225600)) = arr .i64 64 (upto (8 * k + (j + 1)) (inv x)) := by
                      rw [Hq.out, arr_set_upto (by omega) Hv.out]; rfl
                    rw [← e]
                    exact Hb.out
            · obtain rfl : j = 8 := by omega
              have Hb := Lib.hid (show Blk wr g4 23 (arr .i64 64 (upto (8 * (k + 1)) (inv x))) from by rw [show 8 * (k + 1) = 8 * k + 8 by omega]; exact hb')
              go_wp2_with fail
              exact ⟨⟨k + 1, by omega, by go_num, ho', hoo', Hb.out⟩, by simp [intOf]; omega⟩
        · obtain rfl : k = 8 := by omega
          rw [arr_upto_all (by omega)] at hb
          have h2 := h25.only hoo (by simp; omega)
          go_wp2_with (first | refine ld64 hb rfl rfl rfl ?_ | (refine sr64 h2 rfl rfl rfl rfl ?_; rintro w6 b6 o6 e6))
          exact bodyPost_ret (res64 rfl b6 rfl) rfl ⟨rfl, ho.own o6 (by omega)⟩
end Go.Proofs.Ytkpmndpocojnkaa
