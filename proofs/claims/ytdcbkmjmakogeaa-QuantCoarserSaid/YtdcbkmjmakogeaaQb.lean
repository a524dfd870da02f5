/- The contract of Bound, in the program and in the reference. -/
import Derived.Test.YtdcbkmjmakogeaaQs
namespace Go.Proofs.Ytdcbkmjmakogeaa
open Go.RowKit

/-- The absolute value of an element, times its row's M. -/
def At (i k : Nat) : Int := absI (T i k) * Mm i
theorem At_le : ∀ i : Fin 8, ∀ k : Fin 8, 0 ≤ At i.val k.val ∧ At i.val k.val ≤ 18496 := by decide +kernel
theorem At_bd {i k : Nat} (hi : i < 8) (hk : k < 8) : 0 ≤ At i k ∧ At i k ≤ 18496 := At_le ⟨i, hi⟩ ⟨k, hk⟩
/-- One summand, the sum at a sample, the greatest sum. -/
def bt (m : Nat → Int) (q : Int) (k l n : Nat) : Int := At (n / 8) k * At (n % 8) l * (m n * q * Gk n)
def bs (m : Nat → Int) (q : Int) (n : Nat) : Int := sumTo (bt m q (n / 8) (n % 8)) 64
def mx (f : Nat → Int) : Nat → Int
  | 0 => 0
  | n + 1 => max (mx f n) (f n)
def bnd (m : Nat → Int) (q : Int) : Int := if mayB m q = true then (mx (bs m q) 64 + 547363225600) / 1094726451200 else 0
theorem bs_at (m : Nat → Int) (q : Int) (k l : Nat) (hl : l < 8) : bs m q (8 * k + l) = sumTo (bt m q k l) 64 := by
  unfold bs
  rw [show (8 * k + l) / 8 = k by omega, show (8 * k + l) % 8 = l by omega]
theorem mul_pos_bd {a b A B : Int} (ha : 0 ≤ a ∧ a ≤ A) (hb : 0 ≤ b ∧ b ≤ B) : 0 ≤ a * b ∧ a * b ≤ A * B :=
  ⟨Int.mul_nonneg ha.1 hb.1, by
    have h1 : a * b ≤ A * b := Int.mul_le_mul_of_nonneg_right ha.2 hb.1
    have h2 : A * b ≤ A * B := Int.mul_le_mul_of_nonneg_left hb.2 (by omega)
    omega⟩
theorem bt_bd {m : Nat → Int} {q : Int} {k l n : Nat} (hm : 8 ≤ m n ∧ m n ≤ 255) (hq : 1 ≤ q ∧ q ≤ 31) (hk : k < 8) (hl : l < 8) (hn : n < 64) : 0 ≤ bt m q k l n ∧ bt m q k l n ≤ 18496 * 18496 * 284580 := by
  have hs := mqg_bd hm hq hn
  exact mul_pos_bd (mul_pos_bd (At_bd (by omega) hk) (At_bd (by omega) hl)) ⟨by omega, by omega⟩
theorem sumTo_pos {f : Nat → Int} {B : Int} : ∀ n, (∀ k, k < n → 0 ≤ f k ∧ f k ≤ B) → 0 ≤ sumTo f n ∧ sumTo f n ≤ B * n
  | 0, _ => by simp [sumTo]
  | n + 1, h => by
    have ih := sumTo_pos n (fun k hk => h k (by omega))
    have hn := h n (by omega)
    have e : B * ((n + 1 : Nat) : Int) = B * n + B := by rw [Int.natCast_succ, Int.mul_add, Int.mul_one]
    rw [e]
    simp only [sumTo]
    omega
theorem bs_bd {m : Nat → Int} {q : Int} (hm : ∀ n, n < 64 → 8 ≤ m n ∧ m n ≤ 255) (hq : 1 ≤ q ∧ q ≤ 31) (k l : Nat) (hk : k < 8) (hl : l < 8) : 0 ≤ bs m q (8 * k + l) ∧ bs m q (8 * k + l) ≤ 18496 * 18496 * 284580 * 64 := by
  rw [bs_at m q k l hl]
  have := sumTo_pos (f := bt m q k l) (B := 18496 * 18496 * 284580) 64 (fun n hn => bt_bd (hm n hn) hq hk hl hn)
  omega
theorem mx_bd {f : Nat → Int} {B : Int} (hB : 0 ≤ B) : ∀ n, (∀ k, k < n → 0 ≤ f k ∧ f k ≤ B) → 0 ≤ mx f n ∧ mx f n ≤ B
  | 0, _ => by simp [mx]; exact hB
  | n + 1, h => by
    have ih := mx_bd hB n (fun k hk => h k (by omega))
    have hn := h n (by omega)
    simp only [mx]
    omega
theorem size_any (w : World) (v : Int) (hv : -1000 ≤ v ∧ v ≤ 1000) : Calls Try.prog 38 #[.int .i64 v] w fun e w' => e = .returned (.int .i64 (absI v)) ∧ w = w' := by
  by_cases h : v < 0
  · have d : decide (v < 0) = true := by simpa using h
    go_enter Try.func38, Try.ntmps38
    go_wp2
    go_ret
    exact ⟨congrArg Ending.returned (congrArg (Value.int IntKind.i64) (by unfold absI; omega)), rfl⟩
  · have d : decide (v < 0) = false := by simpa using h
    go_enter Try.func38, Try.ntmps38
    go_wp2
    go_ret
    exact ⟨congrArg Ending.returned (congrArg (Value.int IntKind.i64) (by unfold absI; omega)), rfl⟩

set_option maxHeartbeats 2000000 in
set_option maxRecDepth 100000 in
theorem refBound_any (w : World) (m : Nat → Int) (q : Int) (hU : U8 m) : Calls Try.prog 26 #[.agg (arr .u8 64 m), .int .i64 q] w fun e w' => e = .returned (.int .i64 (bnd m q)) ∧ Only [] w w' := by
  go_enter Try.func26, Try.ntmps26
  go_wp2_with (first | (refine bx8 (x := m) rfl rfl rfl ?_; rintro g1 w1 b1 o1 l1) | refine ld8 b1 rfl rfl rfl ?_)
  refine (may_any _ m q).mono ?_
  rintro e w2 ⟨rfl, o2⟩
  have ho := o1.then o2
  have b2 := b1.only o2 (by simp)
  clear o1 o2 b1
  cases hmay : mayB m q with
  | false =>
    have HE := Lib.hid (show bnd m q = 0 from by unfold bnd; simp [hmay])
    clear hmay
    go_wp2_with fail
    go_ret
    exact ⟨congrArg Ending.returned (congrArg (Value.int IntKind.i64) HE.out.symm), ho⟩
  | true =>
    have hq := may_q hmay
    have hv := may_v hmay
    have hm : ∀ n, n < 64 → 8 ≤ m n ∧ m n ≤ 255 := fun n hn => ⟨hv n hn, (hU n hn).2⟩
    have HE := Lib.hid (show bnd m q = (mx (bs m q) 64 + 547363225600) / 1094726451200 from by unfold bnd; simp [hmay])
    have hB := bs_bd hm hq
    clear hmay hv
    go_wp2_with fail
    go_loopw [5, 6] (fun s i wr => ∃ k : Nat, k ≤ 8 ∧ i = .int .i64 k ∧ s = .int .i64 (mx (bs m q) (8 * k)) ∧ Only [] w2 wr) (fun _ i _ => 8 - (intOf i).toNat)
    case atStart => exact ⟨0, by omega, rfl, rfl, Only.refl _ _⟩
    case round =>
      obtain ⟨k, hk, rfl, rfl, ok⟩ := hrel
      by_cases hlt : k < 8
      · have hd : decide ((k : Int) < 8) = true := by simp; omega
        obtain ⟨wa, rfl⟩ : ∃ wa, wa = wr := ⟨_, rfl⟩
        go_wp2_with fail
        go_loopw [5, 7] (fun s i wr => ∃ j : Nat, j ≤ 8 ∧ i = .int .i64 j ∧ s = .int .i64 (mx (bs m q) (8 * k + j)) ∧ Only [] w2 wr) (fun _ i _ => 8 - (intOf i).toNat)
        case atStart => exact ⟨0, by omega, rfl, rfl, ok⟩
        case round =>
          obtain ⟨j, hj, rfl, rfl, oj⟩ := hrel
          by_cases hjl : j < 8
          · have hdj : decide ((j : Int) < 8) = true := by simp; omega
            obtain ⟨wb, rfl⟩ : ∃ wb, wb = wr := ⟨_, rfl⟩
            go_wp2_with fail
            go_loopw [8, 9] (fun s i wr => ∃ n : Nat, n ≤ 64 ∧ i = .int .i64 n ∧ s = .int .i64 (sumTo (bt m q k j) n) ∧ Only [] w2 wr) (fun _ i _ => 64 - (intOf i).toNat)
            case atStart => exact ⟨0, by omega, rfl, rfl, oj⟩
            case round =>
              obtain ⟨n, hn, rfl, rfl, on⟩ := hrel
              by_cases hnl : n < 64
              · have hdn : decide ((n : Int) < 64) = true := by simp; omega
                have hi8 : n / 8 < 8 := by omega
                have hj8 : n % 8 < 8 := by omega
                have cm := (b2.only on (by simp)).cell n
                rw [arr_get hnl] at cm
                have hmk := hm n hnl
                have hs := mqg_bd hmk hq hnl
                have hS := sumTo_pos (f := bt m q k j) (B := 18496 * 18496 * 284580) n (fun i hi => bt_bd (hm i (by omega)) hq hlt hjl (by omega))
                have hp := bt_bd (n := n) (hm n hnl) hq hlt hjl hnl
                have hp1 := mul_pos_bd (At_bd hi8 hlt) (At_bd hj8 hjl)
                have ha1 := At_bd hi8 hlt
                have ha2 := At_bd hj8 hjl
                have ht1 := T_bd hi8 hlt
                have ht2 := T_bd hj8 hjl
                have Hs := Lib.hid (show sumTo (bt m q k j) (n + 1) = sumTo (bt m q k j) n + At (n / 8) k * At (n % 8) j * (m n * q * Gk n) from rfl)
                have H1 := Lib.hid (show At (n / 8) k = absI (T (n / 8) k) * Mm (n / 8) from rfl)
                have H2 := Lib.hid (show At (n % 8) j = absI (T (n % 8) j) * Mm (n % 8) from rfl)
                unfold bt at hp
                have HSt := Lib.hid (fun w => refStep_in w (m n) q n (hm n hnl) hq hnl)
                generalize sumTo (bt m q k j) n = S at hS Hs
                obtain ⟨q1, q2, q3, q4, q5⟩ := quoM ⟨n / 8, by omega⟩
                simp only at q1 q2 q3 q4 q5
                have z1 : (Nm (n / 8) == 0) = false := by simp; omega
                have y1 : ¬ Nm (n / 8) = 0 := by omega
                obtain ⟨r1, r2, r3, r4, r5⟩ := quoM ⟨n % 8, by omega⟩
                simp only at r1 r2 r3 r4 r5
                have z2 : (Nm (n % 8) == 0) = false := by simp; omega
                have y2 : ¬ Nm (n % 8) = 0 := by omega
                have hb1 := ha1
                have hb2 := ha2
                rw [H1.out] at hb1
                rw [H2.out] at hb2
                generalize At (n / 8) k = a1 at ha1 hp hp1 H1 Hs
                generalize At (n % 8) j = a2 at ha2 hp hp1 H2 Hs
                generalize m n * q * Gk n = s at hs hp Hs HSt
                go_wp2_with fail
                refine (refBasis_in _ (n / 8) k hi8 hlt).mono ?_
                rintro e v1 ⟨rfl, p1⟩
                generalize T (n / 8) k = t1 at ht1 hb1 H1
                go_wp2_with fail
                refine (size_any _ _ (by omega)).mono ?_
                rintro e v2 ⟨rfl, rfl⟩
                go_wp2_with fail
                refine (refNorm_in _ (n / 8) hi8).mono ?_
                rintro e v3 ⟨rfl, p3⟩
                go_wp2_with fail
                rw [← H1.out]
                clear q1 q2 q3 q4 q5 z1 y1 hb1 ht1
                refine (refBasis_in _ (n % 8) j hj8 hjl).mono ?_
                rintro e v4 ⟨rfl, p4⟩
                generalize T (n % 8) j = t2 at ht2 hb2 H2
                go_wp2_with fail
                refine (size_any _ _ (by omega)).mono ?_
                rintro e v5 ⟨rfl, rfl⟩
                go_wp2_with fail
                refine (refNorm_in _ (n % 8) hj8).mono ?_
                rintro e v6 ⟨rfl, p6⟩
                have pp := ((p1.then p3).then p4).then p6
                have cm2 := (pp.cell (p := ⟨g1, n, none⟩) (World.block_lt_of_cell? _ _ cm) (by simp)).trans cm
                have hp1u := hp1
                rw [H2.out] at hp1u
                go_wp2_with fail
                rw [← H2.out]
                clear r1 r2 r3 r4 r5 z2 y2 hb2 ht2 hp1u
                refine (HSt.out _).mono ?_
                rintro e v7 ⟨rfl, p7⟩
                go_wp2_with fail
                exact ⟨⟨n + 1, by omega, by go_num, congrArg (Value.int IntKind.i64) (by rw [Hs.out]), (on.then pp).then p7⟩, by simp [intOf]; omega⟩
              · obtain rfl : n = 64 := by omega
                have hb0 := hB k j hlt hjl
                have hM := mx_bd (f := bs m q) (B := 18496 * 18496 * 284580 * 64) (by omega) (8 * k + j) (fun i hi => by
                  have := hB (i / 8) (i % 8) (by omega) (by omega)
                  rwa [at8] at this)
                have Hx := Lib.hid (show mx (bs m q) (8 * k + (j + 1)) = max (mx (bs m q) (8 * k + j)) (bs m q (8 * k + j)) from rfl)
                have hbt := bs_at m q k j hjl
                rw [← hbt]
                clear hbt
                generalize bs m q (8 * k + j) = v at hb0 Hx
                generalize mx (bs m q) (8 * k + j) = M at hM Hx
                go_wp2_with fail
                all_goals
                  exact ⟨⟨j + 1, by omega, by go_num, congrArg (Value.int IntKind.i64) (by rw [Hx.out]; omega), on⟩, by simp [intOf]; omega⟩
          · obtain rfl : j = 8 := by omega
            go_wp2_with fail
            exact ⟨⟨k + 1, by omega, by go_num, rfl, oj⟩, by simp [intOf]; omega⟩
      · obtain rfl : k = 8 := by omega
        have hM := mx_bd (f := bs m q) (B := 18496 * 18496 * 284580 * 64) (by omega) 64 (fun i hi => by
          have := hB (i / 8) (i % 8) (by omega) (by omega)
          rwa [at8] at this)
        rw [show 8 * 8 = 64 from rfl]
        generalize mx (bs m q) 64 = M at hM HE
        go_wp2_with fail
        go_ret
        exact ⟨congrArg Ending.returned (congrArg (Value.int IntKind.i64) HE.out.symm), ho.then ok⟩
end Go.Proofs.Ytdcbkmjmakogeaa
