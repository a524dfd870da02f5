/- Contracts of chapter 5's small functions: Basis, Norm (both), Clamp, nearest. -/
import Derived.Test.YtdcbkmjmakogeaaT2
namespace Go.Proofs.Ytdcbkmjmakogeaa
open Go.RowKit

theorem Tm_at (i k : Nat) (hk : k < 8) : Tm (i * 8 + k) = T i k := by
  unfold Tm
  rw [show (i * 8 + k) / 8 = i by omega, show (i * 8 + k) % 8 = k by omega]
theorem T_le : ∀ i : Fin 8, ∀ k : Fin 8, -12 ≤ T i.val k.val ∧ T i.val k.val ≤ 12 := by decide +kernel
theorem T_bd {i k : Nat} (hi : i < 8) (hk : k < 8) : -12 ≤ T i k ∧ T i k ≤ 12 := T_le ⟨i, hi⟩ ⟨k, hk⟩

theorem refBasis_in (w : World) (i k : Nat) (hi : i < 8) (hk : k < 8) :
    Calls Try.prog 36 #[.int .i64 (i : Int), .int .i64 (k : Int)] w fun e w' => e = .returned (.int .i64 (T i k)) ∧ Only [] w w' := by
  have h1 : decide ((i : Int) < 0) = false := by simp
  have h2 : decide (7 < (i : Int)) = false := by simp; omega
  have h3 : decide ((k : Int) < 0) = false := by simp
  have h4 : decide (7 < (k : Int)) = false := by simp; omega
  have hb := (Blk.row (w := w.alloc (.cells (arr .i64 64 fun _ => 0) 49)) (Blk.new _ _ _) (arr .i64 64 Tm))
  have ho := ((Only.refl [] w).alloc (.cells (arr .i64 64 fun _ => 0) 49)).setRow (.inr (Nat.le_refl _)) (arr .i64 64 Tm)
  go_enter Try.func36, Try.ntmps36
  go_wp2_with (first | refine bld37 (arr .i64 64 Tm) rfl rfl (by kernel_rfl) ?_ | refine st37 (x := fun _ => 0) (g := w.heap.size) (Blk.new _ _ _) rfl rfl rfl rfl (at_worldL (Φ := fun w1 => Blk w1 w.heap.size 49 (arr .i64 64 Tm) ∧ Only [] w w1) ⟨hb, ho⟩ ?_); rintro w1 ⟨hb1, ho1⟩; have hc := hb1.cell (i * 8 + k); rw [arr_get (by omega), Tm_at i k hk] at hc)
  go_ret
  exact ⟨rfl, ho1⟩
theorem refBasis_out (w : World) (i k : Int) (h : ¬ (0 ≤ i ∧ i ≤ 7 ∧ 0 ≤ k ∧ k ≤ 7)) :
    Calls Try.prog 36 #[.int .i64 i, .int .i64 k] w fun e w' => e = .returned (.int .i64 0) ∧ Only [] w w' := by
  by_cases h1 : i < 0
  · have d1 : decide (i < 0) = true := by simpa using h1
    go_enter Try.func36, Try.ntmps36
    go_wp2
    go_ret
    exact ⟨rfl, Only.refl _ _⟩
  · have d1 : decide (i < 0) = false := by simp; omega
    by_cases h2 : 7 < i
    · have d2 : decide (7 < i) = true := by simpa using h2
      go_enter Try.func36, Try.ntmps36
      go_wp2
      go_ret
      exact ⟨rfl, Only.refl _ _⟩
    · have d2 : decide (7 < i) = false := by simp; omega
      by_cases h3 : k < 0
      · have d3 : decide (k < 0) = true := by simpa using h3
        go_enter Try.func36, Try.ntmps36
        go_wp2
        go_ret
        exact ⟨rfl, Only.refl _ _⟩
      · have d3 : decide (k < 0) = false := by simp; omega
        have d4 : decide (7 < k) = true := by simp; omega
        go_enter Try.func36, Try.ntmps36
        go_wp2
        go_ret
        exact ⟨rfl, Only.refl _ _⟩
/-- v brought into the range. -/
def cl (v : Int) : Int := max (-2097152) (min v 2097152)
theorem cl_bd (v : Int) : -2097152 ≤ cl v ∧ cl v ≤ 2097152 := by unfold cl; omega
/-- The integer nearest to s / Scale^2. -/
def near (s : Int) : Int := (2 * s + 547363225600) / 1094726451200
theorem tdiv_neg (a : Int) (h : a.tmod 1094726451200 < 0) : a.tdiv 1094726451200 - 1 = a / 1094726451200 := by
  rw [Int.tmod_eq_emod] at h
  rw [Int.tdiv_eq_ediv]
  split at h
  · omega
  · rename_i hn
    rw [if_neg hn]
    have : Int.sign 1094726451200 = 1 := rfl
    omega
theorem tdiv_pos (a : Int) (h : 0 ≤ a.tmod 1094726451200) : a.tdiv 1094726451200 = a / 1094726451200 := by
  rw [Int.tmod_eq_emod] at h
  rw [Int.tdiv_eq_ediv]
  split at h
  · rename_i hn
    rw [if_pos hn]; omega
  · rename_i hn
    omega
theorem nearest_any (w : World) (v : Int) (hv : -100000000000000000 ≤ v ∧ v ≤ 100000000000000000) : Calls Try.prog 41 #[.int .i64 v] w fun e w' => e = .returned (.int .i64 (near v)) ∧ w = w' := by
  go_enter Try.func41, Try.ntmps41
  go_wp2
  · go_ret
    refine ⟨congrArg Ending.returned (congrArg (Value.int IntKind.i64) ?_), rfl⟩
    rw [tdiv_neg _ (by assumption)]
    show wrap64 ((2 * v + 547363225600) / 1094726451200) = (2 * v + 547363225600) / 1094726451200
    unfold wrap64
    omega
  · go_ret
    exact ⟨congrArg Ending.returned (congrArg (Value.int IntKind.i64) (tdiv_pos _ (by assumption))), rfl⟩
/-- M: Scale / Norm. -/
def Mm (i : Nat) : Int := ([1445, 1280, 2312, 1280, 1445, 1280, 2312, 1280] : List Int).getD i 0
theorem Nm_sum : ∀ i : Fin 8, ((List.range 8).map fun k => T i.val k * T i.val k).sum = Nm i.val := by decide +kernel
/-- The sum of the first n values. -/
def sumTo (f : Nat → Int) : Nat → Int
  | 0 => 0
  | n + 1 => sumTo f n + f n
theorem Nm_sumTo : ∀ i : Fin 8, sumTo (fun k => T i.val k * T i.val k) 8 = Nm i.val := by decide +kernel
theorem refNorm_in (w : World) (i : Nat) (hi : i < 8) : Calls Try.prog 34 #[.int .i64 (i : Int)] w fun e w' => e = .returned (.int .i64 (Nm i)) ∧ Only [] w w' := by
  go_enter Try.func34, Try.ntmps34
  go_wp2_with fail
  go_loopw [3, 4] (fun s k wr => ∃ n : Nat, n ≤ 8 ∧ k = .int .i64 n ∧ s = .int .i64 (sumTo (fun k => T i k * T i k) n) ∧ Only [] w wr ∧ 0 ≤ sumTo (fun k => T i k * T i k) n ∧ sumTo (fun k => T i k * T i k) n ≤ 144 * n) (fun _ k _ => 8 - (intOf k).toNat)
  case atStart => exact ⟨0, by omega, rfl, rfl, Only.refl _ _, by simp [sumTo], by simp [sumTo]⟩
  case round =>
    obtain ⟨n, hn, rfl, rfl, ho, b0, b1⟩ := hrel
    by_cases hlt : n < 8
    · have hd : decide ((n : Int) < 8) = true := by simp; omega
      have hp : 0 ≤ T i n * T i n ∧ T i n * T i n ≤ 144 := by
        have := (show ∀ i : Fin 8, ∀ k : Fin 8, 0 ≤ T i.val k.val * T i.val k.val ∧ T i.val k.val * T i.val k.val ≤ 144 by decide +kernel) ⟨i, hi⟩ ⟨n, hlt⟩
        exact this
      have Hs := Lib.hid (show sumTo (fun k => T i k * T i k) (n + 1) = sumTo (fun k => T i k * T i k) n + T i n * T i n from rfl)
      generalize sumTo (fun k => T i k * T i k) n = S at b0 b1 Hs
      generalize hq : T i n * T i n = q at hp Hs
      have Hq := Lib.hid hq
      clear hq
      go_wp2_with fail
      refine (refBasis_in _ i n hi hlt).mono ?_
      rintro e w1 ⟨rfl, o1⟩
      go_wp2_with fail
      refine (refBasis_in _ i n hi hlt).mono ?_
      rintro e w2 ⟨rfl, o2⟩
      have hT := T_bd hi hlt
      have hq := Hq.out
      go_wp2_with fail
      refine ⟨⟨n + 1, by omega, by go_num, congrArg (Value.int IntKind.i64) Hs.out.symm, (ho.then o1).then o2, ?_, ?_⟩, ?_⟩
      · rw [Hs.out]; omega
      · rw [Hs.out]; omega
      · simp [intOf]; omega
    · obtain rfl : n = 8 := by omega
      have Hn := Lib.hid (Nm_sumTo ⟨i, hi⟩)
      go_wp2_with fail
      go_ret
      exact ⟨congrArg Ending.returned (congrArg (Value.int IntKind.i64) Hn.out), ho⟩
end Go.Proofs.Ytdcbkmjmakogeaa
