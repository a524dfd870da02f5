/- Contracts of chapter 6's steps: gain, Step (both), nearest. -/
import Derived.Test.YtmjjdehicngffaaDoorQ1
import Derived.Test.YtmjjdehicngffaaDoorT7
namespace Go.Proofs.YtmjjdehicngffaaDoor
open Go.RowKit

/-- The factor of a step that belongs to the norms. -/
def gainOf (a b : Int) : Int := if a * b = 262144 then 32 else if a * b = 295936 then 34 else if a * b = 163840 then 25 else if a * b = 334084 then 36 else if a * b = 184960 then 27 else 20
def Gk (k : Nat) : Int := gainOf (Nm (k / 8)) (Nm (k % 8))
theorem Gk_le : ∀ k : Fin 64, 20 ≤ Gk k.val ∧ Gk k.val ≤ 36 := by decide +kernel
theorem Gk_bd {k : Nat} (hk : k < 64) : 20 ≤ Gk k ∧ Gk k ≤ 36 := Gk_le ⟨k, hk⟩
theorem Nm_cases : ∀ i : Fin 8, Nm i.val = 512 ∨ Nm i.val = 578 ∨ Nm i.val = 320 := by decide +kernel
theorem eql2 (a b c d : Int) (w : World) : (binOp .eql 44 (.agg #[.int .i64 a, .int .i64 b]) (.agg #[.int .i64 c, .int .i64 d])).run Tryd.prog w = .ok (.bool (a == c && b == d)) w := by
  have h : (Tryd.prog.info? 3).isSome = true := by kernel_rfl
  obtain ⟨i, hi⟩ := Option.isSome_iff_exists.1 h
  have := run_eql_arr w 44 3 .i64 2 i (fun n => if n = 0 then a else b) (fun n => if n = 0 then c else d) Tryd.underlying44 Tryd.underlying3 hi (by kernel_rfl)
  have e : eqTo 2 (fun n => if n = 0 then a else b) (fun n => if n = 0 then c else d) = (a == c && b == d) := by simp [eqTo, List.range, List.range.loop]
  rw [e] at this
  exact this
set_option maxHeartbeats 2000000 in
theorem gain_at (w : World) (a b : Int) (ha : a = 512 ∨ a = 578 ∨ a = 320) (hb : b = 512 ∨ b = 578 ∨ b = 320) :
    Calls Tryd.prog 24 #[.int .i64 a, .int .i64 b] w fun e w' => e = .returned (.int .i64 (gainOf a b)) ∧ w = w' := by
  have he := eql2
  rcases ha with rfl | rfl | rfl <;> rcases hb with rfl | rfl | rfl
  all_goals
    go_enter Tryd.func24, Tryd.ntmps24
    go_wp2
    go_ret
    exact ⟨by simp [gainOf], rfl⟩
/-- The step of an entry, a quantiser and a position. -/
def St (m q k : Int) : Int := if 8 ≤ m ∧ m ≤ 255 ∧ 1 ≤ q ∧ q ≤ 31 ∧ 0 ≤ k ∧ k < 64 then m * q * Gk k.toNat else 0
theorem mq_bd {m q : Int} (hm : 8 ≤ m ∧ m ≤ 255) (hq : 1 ≤ q ∧ q ≤ 31) : 8 ≤ m * q ∧ m * q ≤ 7905 := by
  have h1 : m * 1 ≤ m * q := Int.mul_le_mul_of_nonneg_left hq.1 (by omega)
  have h2 : m * q ≤ m * 31 := Int.mul_le_mul_of_nonneg_left hq.2 (by omega)
  omega
theorem mqg_bd {m q : Int} {k : Nat} (hm : 8 ≤ m ∧ m ≤ 255) (hq : 1 ≤ q ∧ q ≤ 31) (hk : k < 64) : 160 ≤ m * q * Gk k ∧ m * q * Gk k ≤ 284580 := by
  have h := mq_bd hm hq
  have g := Gk_bd hk
  have h1 : m * q * 20 ≤ m * q * Gk k := Int.mul_le_mul_of_nonneg_left g.1 (by omega)
  have h2 : m * q * Gk k ≤ m * q * 36 := Int.mul_le_mul_of_nonneg_left g.2 (by omega)
  omega
theorem step_in (w : World) (m q : Int) (k : Nat) (hm : 8 ≤ m ∧ m ≤ 255) (hq : 1 ≤ q ∧ q ≤ 31) (hk : k < 64) :
    Calls Tryd.prog 18 #[.int .i64 m, .int .i64 q, .int .i64 (k : Int)] w fun e w' => e = .returned (.int .i64 (m * q * Gk k)) ∧ Only [] w w' := by
  have d1 : decide (m < 8) = false := by simp; omega
  have d2 : decide (255 < m) = false := by simp; omega
  have d3 : decide ((k : Int) < 0) = false := by simp
  have d4 : decide (64 ≤ (k : Int)) = false := by simp; omega
  have hv : vq q = true := vq_true.2 hq
  have h1 := mq_bd hm hq
  have h2 := mqg_bd hm hq hk
  have g := Gk_bd hk
  have n1 := Nm_cases ⟨k / 8, by omega⟩
  have n2 := Nm_cases ⟨k % 8, by omega⟩
  simp only at n1 n2
  have HG := Lib.hid (show Gk k = gainOf (Nm (k / 8)) (Nm (k % 8)) from rfl)
  go_enter Tryd.func18, Tryd.ntmps18
  go_wp2_with fail
  refine (vq_any _ q).mono ?_
  rintro e w1 ⟨rfl, rfl⟩
  rw [hv]
  clear hv
  go_wp2_with fail
  refine (norm_in _ (k / 8) (by omega)).mono ?_
  rintro e w1 ⟨rfl, o1⟩
  go_wp2_with fail
  refine (norm_in _ (k % 8) (by omega)).mono ?_
  rintro e w2 ⟨rfl, o2⟩
  go_wp2_with fail
  refine (gain_at _ _ _ n1 n2).mono ?_
  rintro e w3 ⟨rfl, rfl⟩
  rw [← HG.out]
  go_wp2_with fail
  go_ret
  exact ⟨rfl, o1.then o2⟩
theorem step_out (w : World) (m q k : Int) (h : ¬ (8 ≤ m ∧ m ≤ 255 ∧ 1 ≤ q ∧ q ≤ 31 ∧ 0 ≤ k ∧ k < 64)) :
    Calls Tryd.prog 18 #[.int .i64 m, .int .i64 q, .int .i64 k] w fun e w' => e = .returned (.int .i64 0) ∧ Only [] w w' := by
  by_cases h1 : m < 8
  · have d1 : decide (m < 8) = true := by simpa using h1
    go_enter Tryd.func18, Tryd.ntmps18
    go_wp2_with fail
    go_ret
    exact ⟨rfl, Only.refl _ _⟩
  · have d1 : decide (m < 8) = false := by simpa using h1
    by_cases h2 : 255 < m
    · have d2 : decide (255 < m) = true := by simpa using h2
      go_enter Tryd.func18, Tryd.ntmps18
      go_wp2_with fail
      go_ret
      exact ⟨rfl, Only.refl _ _⟩
    · have d2 : decide (255 < m) = false := by simpa using h2
      go_enter Tryd.func18, Tryd.ntmps18
      go_wp2_with fail
      refine (vq_any _ q).mono ?_
      rintro e w1 ⟨rfl, rfl⟩
      cases hv : vq q with
      | false =>
        clear hv
        go_wp2_with fail
        go_ret
        exact ⟨rfl, Only.refl _ _⟩
      | true =>
        have hq := vq_true.1 hv
        clear hv
        by_cases h3 : k < 0
        · have d3 : decide (k < 0) = true := by simpa using h3
          go_wp2_with fail
          go_ret
          exact ⟨rfl, Only.refl _ _⟩
        · have d3 : decide (k < 0) = false := by simpa using h3
          have d4 : decide (64 ≤ k) = true := by simp; omega
          go_wp2_with fail
          go_ret
          exact ⟨rfl, Only.refl _ _⟩
theorem St_in {m q : Int} {k : Nat} (hm : 8 ≤ m ∧ m ≤ 255) (hq : 1 ≤ q ∧ q ≤ 31) (hk : k < 64) : St m q (k : Int) = m * q * Gk k := by
  unfold St; rw [if_pos (by omega)]; rfl
theorem step_any (w : World) (m q k : Int) : Calls Tryd.prog 18 #[.int .i64 m, .int .i64 q, .int .i64 k] w fun e w' => e = .returned (.int .i64 (St m q k)) ∧ Only [] w w' := by
  by_cases h : 8 ≤ m ∧ m ≤ 255 ∧ 1 ≤ q ∧ q ≤ 31 ∧ 0 ≤ k ∧ k < 64
  · obtain ⟨n, rfl⟩ := Int.eq_ofNat_of_zero_le h.2.2.2.2.1
    rw [St_in (by omega) (by omega) (by omega)]
    exact step_in w m q n (by omega) (by omega) (by omega)
  · unfold St; rw [if_neg h]; exact step_out w m q k h
end Go.Proofs.YtmjjdehicngffaaDoor
