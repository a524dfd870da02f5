/- TransformBasis: the walk. -/
import Derived.Test.YtkpmndpocojnkaaT6
import Derived.Test.YtkpmndpocojnkaaT7
namespace Go.Proofs.Ytkpmndpocojnkaa.transformBasis
open Go.RowKit

theorem Bs_bd (i k : Int) : -12 ≤ Bs i k ∧ Bs i k ≤ 12 := by
  unfold Bs
  split
  · exact T_bd (by omega) (by omega)
  · omega
theorem ortho : ∀ i : Fin 8, ∀ k : Fin 8, i ≠ k → sumTo (fun n => T i.val n * T k.val n) 8 = 0 := by decide +kernel
theorem walk (w : World) (i : Int) (hi : -9223372036854775808 ≤ i ∧ i ≤ 9223372036854775807) (k : Int) (hk : -9223372036854775808 ≤ k ∧ k ≤ 9223372036854775807) :
    Calls Try.prog 11 #[.int .i64 i, .int .i64 k] w fun e w' => e = .returned (.bool true) ∧ Only [] w w' := by
  by_cases h : 0 ≤ i ∧ i ≤ 7 ∧ 0 ≤ k ∧ k ≤ 7 ∧ i ≠ k
  · obtain ⟨a, rfl⟩ := Int.eq_ofNat_of_zero_le h.1
    obtain ⟨b, rfl⟩ := Int.eq_ofNat_of_zero_le h.2.2.1
    have ha : a < 8 := by omega
    have hb : b < 8 := by omega
    have d1 : decide ((a : Int) < 0) = false := by simp
    have d2 : decide (7 < (a : Int)) = false := by simp; omega
    have d3 : decide ((b : Int) < 0) = false := by simp
    have d4 : decide (7 < (b : Int)) = false := by simp; omega
    have d5 : ((a : Int) == (b : Int)) = false := by simp; omega
    have d6 : ¬ a = b := by omega
    have HO := Lib.hid (ortho ⟨a, ha⟩ ⟨b, hb⟩ (by simp; omega))
    go_enter Try.func11, Try.ntmps11
    go_wp2_with fail
    refine (basis_in _ a b ha hb).mono ?_
    rintro e w1 ⟨rfl, o1⟩
    go_wp2_with fail
    refine (refBasis_in _ a b ha hb).mono ?_
    rintro e w2 ⟨rfl, o2⟩
    go_wp2_with fail
    refine (norm_in _ a ha).mono ?_
    rintro e w3 ⟨rfl, o3⟩
    go_wp2_with fail
    refine (refNorm_in _ a ha).mono ?_
    rintro e w4 ⟨rfl, o4⟩
    have ho := ((o1.then o2).then o3).then o4
    clear o1 o2 o3 o4
    go_wp2_with fail
    go_loopw [5, 6] (fun s t wr => ∃ n : Nat, n ≤ 8 ∧ t = .int .i64 n ∧ s = .int .i64 (sumTo (fun n => T a n * T b n) n) ∧ Only [] w wr) (fun _ t _ => 8 - (intOf t).toNat)
    case atStart => exact ⟨0, by omega, rfl, rfl, ho⟩
    case round =>
      obtain ⟨n, hn, rfl, rfl, hol⟩ := hrel
      by_cases hlt : n < 8
      · have hd : decide ((n : Int) < 8) = true := by simp; omega
        have p1 := mul_bd (T_bd ha hlt) (T_bd hb hlt)
        have s1 := sumTo_bd (f := fun n => T a n * T b n) (B := 12 * 12) n (fun j hj => mul_bd (T_bd ha (by omega)) (T_bd hb (by omega)))
        have Hs := Lib.hid (show sumTo (fun n => T a n * T b n) (n + 1) = sumTo (fun n => T a n * T b n) n + T a n * T b n from rfl)
        generalize sumTo (fun n => T a n * T b n) n = S at s1 Hs
        go_wp2_with fail
        refine (basis_in _ a n ha hlt).mono ?_
        rintro e w1 ⟨rfl, o1⟩
        go_wp2_with fail
        refine (basis_in _ b n hb hlt).mono ?_
        rintro e w2 ⟨rfl, o2⟩
        go_wp2_with fail
        exact ⟨⟨n + 1, by omega, by go_num, congrArg (Value.int IntKind.i64) Hs.out.symm, (hol.then o1).then o2⟩, by simp [intOf]; omega⟩
      · obtain rfl : n = 8 := by omega
        rw [HO.out]
        go_wp2_with fail
        refine (awake_any _).mono ?_
        rintro e w6 ⟨rfl, o6⟩
        go_wp2_with fail
        go_ret
        exact ⟨rfl, hol.then o6⟩
  · have hc : i < 0 ∨ 7 < i ∨ k < 0 ∨ 7 < k ∨ i = k := by omega
    clear h
    go_enter Try.func11, Try.ntmps11
    go_wp2_with fail
    refine (basis_any _ i k).mono ?_
    rintro e w1 ⟨rfl, o1⟩
    go_wp2_with fail
    refine (refBasis_any _ i k).mono ?_
    rintro e w2 ⟨rfl, o2⟩
    go_wp2_with fail
    refine (norm_any _ i).mono ?_
    rintro e w3 ⟨rfl, o3⟩
    go_wp2_with fail
    refine (refNorm_any _ i).mono ?_
    rintro e w4 ⟨rfl, o4⟩
    have ho := ((o1.then o2).then o3).then o4
    clear o1 o2 o3 o4
    by_cases c1 : i < 0
    · have d1 : decide (i < 0) = true := by simpa using c1
      go_wp2_with fail
      refine (awake_any _).mono ?_
      rintro e w6 ⟨rfl, o6⟩
      go_wp2_with fail
      go_ret
      exact ⟨rfl, ho.then o6⟩
    · have d1 : decide (i < 0) = false := by simp; omega
      by_cases c2 : 7 < i
      · have d2 : decide (7 < i) = true := by simpa using c2
        go_wp2_with fail
        refine (awake_any _).mono ?_
        rintro e w6 ⟨rfl, o6⟩
        go_wp2_with fail
        go_ret
        exact ⟨rfl, ho.then o6⟩
      · have d2 : decide (7 < i) = false := by simp; omega
        by_cases c3 : k < 0
        · have d3 : decide (k < 0) = true := by simpa using c3
          go_wp2_with fail
          refine (awake_any _).mono ?_
          rintro e w6 ⟨rfl, o6⟩
          go_wp2_with fail
          go_ret
          exact ⟨rfl, ho.then o6⟩
        · have d3 : decide (k < 0) = false := by simp; omega
          by_cases c4 : 7 < k
          · have d4 : decide (7 < k) = true := by simpa using c4
            go_wp2_with fail
            refine (awake_any _).mono ?_
            rintro e w6 ⟨rfl, o6⟩
            go_wp2_with fail
            go_ret
            exact ⟨rfl, ho.then o6⟩
          · have d4 : decide (7 < k) = false := by simp; omega
            obtain rfl : i = k := by omega
            go_wp2_with fail
            refine (awake_any _).mono ?_
            rintro e w6 ⟨rfl, o6⟩
            go_wp2_with fail
            go_ret
            exact ⟨rfl, ho.then o6⟩
end Go.Proofs.Ytkpmndpocojnkaa.transformBasis
