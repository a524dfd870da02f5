/- Contracts of chapter 5's Basis and Norm, for all indexes, in the program and in the reference. -/
import Derived.Test.YtmjjdehicngffaaDoorT3
import Derived.Test.YtmjjdehicngffaaDoorReg
namespace Go.Proofs.YtmjjdehicngffaaDoor
open Go.RowKit

def Bs (i k : Int) : Int := if 0 ≤ i ∧ i ≤ 7 ∧ 0 ≤ k ∧ k ≤ 7 then T i.toNat k.toNat else 0
def Ns (i : Int) : Int := if 0 ≤ i ∧ i ≤ 7 then Nm i.toNat else 0
theorem Bs_in {i k : Nat} (hi : i < 8) (hk : k < 8) : Bs (i : Int) (k : Int) = T i k := by
  unfold Bs; rw [if_pos (by omega)]; rfl
theorem Ns_in {i : Nat} (hi : i < 8) : Ns (i : Int) = Nm i := by
  unfold Ns; rw [if_pos (by omega)]; rfl
theorem extract_mat (i : Nat) (hi : i < 8) : (arr .i64 64 Tm).extract (i * 8) (i * 8 + 8) = arr .i64 8 (fun j => T i j) := by
  apply Array.ext_getElem?
  intro j
  rw [Array.getElem?_extract]
  by_cases hj : j < 8
  · rw [arr_get hj]
    rw [arr_size, if_pos (by omega), arr_get (by omega), Tm_at i j hj]
  · rw [if_neg (by rw [arr_size]; omega), Array.getElem?_eq_none (by rw [arr_size]; omega)]
theorem size_int7 (w : World) : (sizeOf 3).run Tryd.prog w = .ok 1 w := by kernel_rfl
theorem norm_in (w : World) (i : Nat) (hi : i < 8) : Calls Tryd.prog 25 #[.int .i64 (i : Int)] w fun e w' => e = .returned (.int .i64 (Nm i)) ∧ Only [] w w' := by
  have h1 : decide ((i : Int) < 0) = false := by simp
  have h2 : decide (8 ≤ (i : Int)) = false := by simp; omega
  have x2 := fun w => run_index_arr (P := Tryd.prog) w 45 3 .i64 8 Nm Tryd.underlying45 Tryd.underlying3 size_int7 .i64 i hi
  go_enter Tryd.func25, Tryd.ntmps25
  go_wp2_with fail
  refine (norms_any _).mono ?_
  rintro e w1 ⟨rfl, o1⟩
  go_wp2_with fail
  go_ret
  exact ⟨rfl, o1⟩
theorem norm_any (w : World) (i : Int) : Calls Tryd.prog 25 #[.int .i64 i] w fun e w' => e = .returned (.int .i64 (Ns i)) ∧ Only [] w w' := by
  by_cases h : 0 ≤ i ∧ i ≤ 7
  · obtain ⟨m, rfl⟩ := Int.eq_ofNat_of_zero_le h.1
    rw [Ns_in (by omega)]
    exact norm_in w m (by omega)
  · unfold Ns; rw [if_neg h]
    by_cases h1 : i < 0
    · have d1 : decide (i < 0) = true := by simpa using h1
      go_enter Tryd.func25, Tryd.ntmps25
      go_wp2
      go_ret
      exact ⟨rfl, Only.refl _ _⟩
    · have d1 : decide (i < 0) = false := by simp; omega
      have d2 : decide (8 ≤ i) = true := by simp; omega
      go_enter Tryd.func25, Tryd.ntmps25
      go_wp2
      go_ret
      exact ⟨rfl, Only.refl _ _⟩
end Go.Proofs.YtmjjdehicngffaaDoor
