/- Contracts of chapter 5's Basis and Norm, for all indexes, in the program and in the reference. -/
import Derived.Test.YtdcbkmjmakogeaaT3
import Derived.Test.YtdcbkmjmakogeaaReg
namespace Go.Proofs.Ytdcbkmjmakogeaa
open Go.RowKit

def Bs (i k : Int) : Int := if 0 ≤ i ∧ i ≤ 7 ∧ 0 ≤ k ∧ k ≤ 7 then T i.toNat k.toNat else 0
def Ns (i : Int) : Int := if 0 ≤ i ∧ i ≤ 7 then Nm i.toNat else 0
theorem Bs_in {i k : Nat} (hi : i < 8) (hk : k < 8) : Bs (i : Int) (k : Int) = T i k := by
  unfold Bs; rw [if_pos (by omega)]; rfl
theorem Ns_in {i : Nat} (hi : i < 8) : Ns (i : Int) = Nm i := by
  unfold Ns; rw [if_pos (by omega)]; rfl
theorem extract_mat (i : Nat) (hi : i < 8) : (arr .i64 64 Tm).extract (i * 8) (i * 8 + 8) = arr .i64 8 (fun j => T i j) := by
  apply Array.ext_getElem?
  intro j
  rw [Array.getElem?_extract]
  by_cases hj : j < 8
  · rw [arr_get hj]
    rw [arr_size, if_pos (by omega), arr_get (by omega), Tm_at i j hj]
  · rw [if_neg (by rw [arr_size]; omega), Array.getElem?_eq_none (by rw [arr_size]; omega)]
theorem run_index_mat (w : World) (i : Nat) (hi : i < 8) : (Instr.index 49 (.agg (arr .i64 64 Tm)) (.int .i64 (i : Int))).run Try.prog w = .ok (.agg (arr .i64 8 (fun j => T i j))) w := by
  have h2 : (0 : Int) ≤ (i : Int) ∧ (i : Int) < ((8 : Nat) : Int) := by omega
  have hs : ∀ w, (sizeOf 48).run Try.prog w = .ok 8 w := fun _ => by kernel_rfl
  simp only [Instr.index, asIntOf, Sem.run_bind, Sem.run_pure, Result.andThen_ok, run_underlying Try.underlying49, if_pos h2, hs, part, isAgg, run_underlying Try.underlying48, Int.toNat_natCast, if_true, extract_mat i hi]
theorem size_int7 (w : World) : (sizeOf 3).run Try.prog w = .ok 1 w := by kernel_rfl
theorem basis_in (w : World) (i k : Nat) (hi : i < 8) (hk : k < 8) :
    Calls Try.prog 37 #[.int .i64 (i : Int), .int .i64 (k : Int)] w fun e w' => e = .returned (.int .i64 (T i k)) ∧ Only [] w w' := by
  have h1 : decide ((i : Int) < 0) = false := by simp
  have h2 : decide (8 ≤ (i : Int)) = false := by simp; omega
  have h3 : decide ((k : Int) < 0) = false := by simp
  have h4 : decide (8 ≤ (k : Int)) = false := by simp; omega
  have x1 := fun w => run_index_mat w i hi
  have x2 := fun w => run_index_arr (P := Try.prog) w 48 3 .i64 8 (fun j => T i j) Try.underlying48 Try.underlying3 size_int7 .i64 k hk
  go_enter Try.func37, Try.ntmps37
  go_wp2_with fail
  refine (matrix_any _).mono ?_
  rintro e w1 ⟨rfl, o1⟩
  go_wp2_with fail
  go_ret
  exact ⟨rfl, o1⟩
theorem basis_out (w : World) (i k : Int) (h : ¬ (0 ≤ i ∧ i ≤ 7 ∧ 0 ≤ k ∧ k ≤ 7)) :
    Calls Try.prog 37 #[.int .i64 i, .int .i64 k] w fun e w' => e = .returned (.int .i64 0) ∧ Only [] w w' := by
  by_cases h1 : i < 0
  · have d1 : decide (i < 0) = true := by simpa using h1
    go_enter Try.func37, Try.ntmps37
    go_wp2
    go_ret
    exact ⟨rfl, Only.refl _ _⟩
  · have d1 : decide (i < 0) = false := by simp; omega
    by_cases h2 : 8 ≤ i
    · have d2 : decide (8 ≤ i) = true := by simpa using h2
      go_enter Try.func37, Try.ntmps37
      go_wp2
      go_ret
      exact ⟨rfl, Only.refl _ _⟩
    · have d2 : decide (8 ≤ i) = false := by simp; omega
      by_cases h3 : k < 0
      · have d3 : decide (k < 0) = true := by simpa using h3
        go_enter Try.func37, Try.ntmps37
        go_wp2
        go_ret
        exact ⟨rfl, Only.refl _ _⟩
      · have d3 : decide (k < 0) = false := by simp; omega
        have d4 : decide (8 ≤ k) = true := by simp; omega
        go_enter Try.func37, Try.ntmps37
        go_wp2
        go_ret
        exact ⟨rfl, Only.refl _ _⟩
theorem basis_any (w : World) (i k : Int) : Calls Try.prog 37 #[.int .i64 i, .int .i64 k] w fun e w' => e = .returned (.int .i64 (Bs i k)) ∧ Only [] w w' := by
  by_cases h : 0 ≤ i ∧ i ≤ 7 ∧ 0 ≤ k ∧ k ≤ 7
  · obtain ⟨m, rfl⟩ := Int.eq_ofNat_of_zero_le h.1
    obtain ⟨n, rfl⟩ := Int.eq_ofNat_of_zero_le h.2.2.1
    rw [Bs_in (by omega) (by omega)]
    exact basis_in w m n (by omega) (by omega)
  · unfold Bs; rw [if_neg h]; exact basis_out w i k h
theorem refBasis_any (w : World) (i k : Int) : Calls Try.prog 36 #[.int .i64 i, .int .i64 k] w fun e w' => e = .returned (.int .i64 (Bs i k)) ∧ Only [] w w' := by
  by_cases h : 0 ≤ i ∧ i ≤ 7 ∧ 0 ≤ k ∧ k ≤ 7
  · obtain ⟨m, rfl⟩ := Int.eq_ofNat_of_zero_le h.1
    obtain ⟨n, rfl⟩ := Int.eq_ofNat_of_zero_le h.2.2.1
    rw [Bs_in (by omega) (by omega)]
    exact refBasis_in w m n (by omega) (by omega)
  · unfold Bs; rw [if_neg h]; exact refBasis_out w i k h
theorem norm_in (w : World) (i : Nat) (hi : i < 8) : Calls Try.prog 33 #[.int .i64 (i : Int)] w fun e w' => e = .returned (.int .i64 (Nm i)) ∧ Only [] w w' := by
  have h1 : decide ((i : Int) < 0) = false := by simp
  have h2 : decide (8 ≤ (i : Int)) = false := by simp; omega
  have x2 := fun w => run_index_arr (P := Try.prog) w 48 3 .i64 8 Nm Try.underlying48 Try.underlying3 size_int7 .i64 i hi
  go_enter Try.func33, Try.ntmps33
  go_wp2_with fail
  refine (norms_any _).mono ?_
  rintro e w1 ⟨rfl, o1⟩
  go_wp2_with fail
  go_ret
  exact ⟨rfl, o1⟩
theorem norm_any (w : World) (i : Int) : Calls Try.prog 33 #[.int .i64 i] w fun e w' => e = .returned (.int .i64 (Ns i)) ∧ Only [] w w' := by
  by_cases h : 0 ≤ i ∧ i ≤ 7
  · obtain ⟨m, rfl⟩ := Int.eq_ofNat_of_zero_le h.1
    rw [Ns_in (by omega)]
    exact norm_in w m (by omega)
  · unfold Ns; rw [if_neg h]
    by_cases h1 : i < 0
    · have d1 : decide (i < 0) = true := by simpa using h1
      go_enter Try.func33, Try.ntmps33
      go_wp2
      go_ret
      exact ⟨rfl, Only.refl _ _⟩
    · have d1 : decide (i < 0) = false := by simp; omega
      have d2 : decide (8 ≤ i) = true := by simp; omega
      go_enter Try.func33, Try.ntmps33
      go_wp2
      go_ret
      exact ⟨rfl, Only.refl _ _⟩
theorem refNorm_any (w : World) (i : Int) : Calls Try.prog 34 #[.int .i64 i] w fun e w' => e = .returned (.int .i64 (Ns i)) ∧ Only [] w w' := by
  by_cases h : 0 ≤ i ∧ i ≤ 7
  · obtain ⟨m, rfl⟩ := Int.eq_ofNat_of_zero_le h.1
    rw [Ns_in (by omega)]
    exact refNorm_in w m (by omega)
  · unfold Ns; rw [if_neg h]
    go_enter Try.func34, Try.ntmps34
    go_wp2_with fail
    go_loopw [3, 4] (fun s k wr => ∃ n : Nat, n ≤ 8 ∧ k = .int .i64 n ∧ s = .int .i64 0 ∧ Only [] w wr) (fun _ k _ => 8 - (intOf k).toNat)
    case atStart => exact ⟨0, by omega, rfl, rfl, Only.refl _ _⟩
    case round =>
      obtain ⟨n, hn, rfl, rfl, ho⟩ := hrel
      by_cases hlt : n < 8
      · have hd : decide ((n : Int) < 8) = true := by simp; omega
        go_wp2_with fail
        refine (refBasis_out _ i n (by omega)).mono ?_
        rintro e w1 ⟨rfl, o1⟩
        go_wp2_with fail
        refine (refBasis_out _ i n (by omega)).mono ?_
        rintro e w2 ⟨rfl, o2⟩
        go_wp2_with fail
        exact ⟨⟨n + 1, by omega, by go_num, rfl, (ho.then o1).then o2⟩, by simp [intOf]; omega⟩
      · obtain rfl : n = 8 := by omega
        go_wp2_with fail
        go_ret
        exact ⟨rfl, ho⟩
end Go.Proofs.Ytdcbkmjmakogeaa
