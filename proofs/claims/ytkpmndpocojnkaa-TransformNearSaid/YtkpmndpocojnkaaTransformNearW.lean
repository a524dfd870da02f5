/- TransformNear: the walk. -/
import Derived.Test.YtkpmndpocojnkaaTb
namespace Go.Proofs.Ytkpmndpocojnkaa.transformNear
open Go.RowKit

def ab (i : Nat) (n : Nat) : Int := sumTo (fun k => absI (T i k)) n
theorem ab_all (i : Nat) : ab i 8 = Ab i := rfl
theorem absI_bd {i k : Nat} (hi : i < 8) (hk : k < 8) : 0 ≤ absI (T i k) ∧ absI (T i k) ≤ 12 := by
  have := T_bd hi hk
  unfold absI; omega
theorem ab_bd {i : Nat} (hi : i < 8) : ∀ n, n ≤ 8 → 0 ≤ ab i n ∧ ab i n ≤ 12 * n
  | 0, _ => by simp [ab, sumTo]
  | n + 1, h => by
    have h1 := ab_bd hi n (by omega)
    have h2 := absI_bd (k := n) hi (by omega)
    have e : ab i (n + 1) = ab i n + absI (T i n) := rfl
    rw [e]; omega
theorem max_absI (a : Int) : (if a < -a then -a else a) = absI a := by unfold absI; split <;> omega

set_option maxHeartbeats 1000000 in
theorem walk (w : World) (A : Option Addr) (c : Nat) (l : List Int) (hr : Reads w A 1 l.length (l.map (Value.int .i64))) (hm : l.length ≤ maxLen) (hb : ∀ z ∈ l, -9223372036854775808 ≤ z ∧ z ≤ 9223372036854775807) :
    Calls Try.prog 10 #[.slice A l.length c] w fun e w' => e = .returned (.bool true) ∧ Only [] w w' := by
  have hI := blockOf_I64 hb
  generalize hx : blockOf l = y at hI
  have HX := Lib.hid hx
  clear hx
  go_enter Try.func10, Try.ntmps10
  go_wp2_with fail
  refine (block_any _ A c l hr hm).mono ?_
  rintro e w1 ⟨rfl, o1⟩
  rw [HX.out]
  go_wp2_with (first | (refine al64 rfl rfl ?_; rintro g1 w2 b2 o2 l2) | (refine sr64 b2 rfl rfl rfl rfl ?_; rintro w3 b3 o3 e3) | refine ld64 b3 rfl rfl rfl ?_)
  have ho3 := (o1.then o2).own o3 (by have := o1.size; omega)
  clear o1 o2 o3 b2
  refine (inverse_any _ y hI).mono ?_
  rintro e w4 ⟨rfl, o4⟩
  have hJ : I64 64 (inv y) := fun j hj => by
    have := sumI_bd y j hj
    unfold inv near; omega
  have b4 := b3.only o4 (by simp)
  have ho4 := ho3.then o4
  clear o4 b3 ho3
  go_wp2_with (first | (refine al64 rfl rfl ?_; rintro g2 w5 b5 o5 l5) | (refine sr64 b5 rfl rfl rfl rfl ?_; rintro w6 b6 o6 e6) | (have b4' := (b4.only o5 (by simp)).only o6 (by have := b4.lt; simp; omega); refine ld64 b4' rfl rfl rfl ?_))
  have ho6 := (ho4.then o5).own o6 (by have := ho4.size; omega)
  clear o5 o6 b5 b4 ho4
  refine (within_any _ y 2097152 hI (by omega)).mono ?_
  rintro e w7 ⟨rfl, o7⟩
  have ho7 := ho6.then o7
  have bx7 := b6.only o7 (by simp)
  have by7 := b4'.only o7 (by simp)
  clear o7 ho6 b6 b4'
  cases hin : inside y 2097152 64 with
  | false =>
    clear hin
    go_wp2_with fail
    refine (awake_any _).mono ?_
    rintro e w8 ⟨rfl, o8⟩
    go_wp2_with fail
    go_ret
    exact ⟨rfl, ho7.then o8⟩
  | true =>
    have hY : Bd y 2097152 := inside_true.1 hin
    clear hin
    go_wp2_with (refine gld64 (x := inv y) (g := g2) bx7 rfl rfl rfl ?_)
    refine (within_any _ (inv y) 255 hJ (by omega)).mono ?_
    rintro e w8 ⟨rfl, o8⟩
    have ho8 := ho7.then o8
    have bx8 := bx7.only o8 (by simp)
    have by8 := by7.only o8 (by simp)
    clear o8 ho7 bx7 by7
    cases hin : inside (inv y) 255 64 with
    | false =>
      clear hin
      go_wp2_with fail
      refine (awake_any _).mono ?_
      rintro e w8 ⟨rfl, o8⟩
      go_wp2_with fail
      go_ret
      exact ⟨rfl, ho8.then o8⟩
    | true =>
      have hB : Bd (inv y) 255 := inside_true.1 hin
      go_wp2_with (refine ld64 bx8 rfl rfl rfl ?_)
      refine (forward_in _ (inv y) hJ hin).mono ?_
      rintro e w9 ⟨rfl, o9⟩
      have ho9 := ho8.then o9
      have by9 := by8.only o9 (by simp)
      clear o9 ho8 bx8 by8 hin
      go_wp2_with (first | (refine al64 rfl rfl ?_; rintro g3 wa ba oa la) | (refine sr64 ba rfl rfl rfl rfl ?_; rintro wb bb ob eb))
      have hob := (ho9.then oa).own ob (by have := ho9.size; omega)
      have byb := (by9.only oa (by simp)).only ob (by have := by9.lt; simp; omega)
      clear oa ob ba by9 ho9
      have HN := Lib.hid (fun n hn => near_fw hY n hn)
      have hZ := fw_bd hB (by omega)
      generalize fw (inv y) = z at bb HN hZ
      go_loopw [7] (fun i wr => ∃ k : Nat, k ≤ 64 ∧ i = .int .i64 k ∧ Only [] wb wr) (fun i _ => 64 - (intOf i).toNat)
      case atStart => exact ⟨0, by omega, rfl, Only.refl _ _⟩
      case round =>
        obtain ⟨k, hk, rfl, ol⟩ := hrel
        by_cases hlt : k < 64
        · have hd : decide ((k : Int) < 64) = true := by simp; omega
          have h8 : k / 8 < 8 := by omega
          have hm8 : k % 8 < 8 := by omega
          obtain ⟨wo, rfl⟩ : ∃ wo, wo = wr := ⟨_, rfl⟩
          go_wp2_with fail
          go_loopw [8, 9, 10] (fun a b i wr => ∃ n : Nat, n ≤ 8 ∧ i = .int .i64 n ∧ a = .int .i64 (ab (k / 8) n) ∧ b = .int .i64 (ab (k % 8) n) ∧ Only [] wo wr) (fun _ _ i _ => 8 - (intOf i).toNat)
          case atStart => exact ⟨0, by omega, rfl, rfl, rfl, Only.refl _ _⟩
          case round =>
            obtain ⟨n, hn, rfl, rfl, rfl, on⟩ := hrel
            by_cases hnl : n < 8
            · have hdn : decide ((n : Int) < 8) = true := by simp; omega
              have t1 := T_bd h8 hnl
              have t2 := T_bd hm8 hnl
              have s1 := ab_bd h8 n hn
              have s2 := ab_bd hm8 n hn
              have H1 := Lib.hid (show ab (k / 8) (n + 1) = ab (k / 8) n + absI (T (k / 8) n) from rfl)
              have H2 := Lib.hid (show ab (k % 8) (n + 1) = ab (k % 8) n + absI (T (k % 8) n) from rfl)
              generalize ab (k / 8) n = S1 at s1 H1
              generalize ab (k % 8) n = S2 at s2 H2
              go_wp2_with fail
              refine (refBasis_in _ (k / 8) n h8 hnl).mono ?_
              rintro e v1 ⟨rfl, q1⟩
              go_wp2_with fail
              refine (refBasis_in _ (k / 8) n h8 hnl).mono ?_
              rintro e v2 ⟨rfl, q2⟩
              generalize T (k / 8) n = t at t1 H1
              go_wp2_with fail
              all_goals
                refine (refBasis_in _ (k % 8) n hm8 hnl).mono ?_
                rintro e v3 ⟨rfl, q3⟩
                go_wp2_with fail
                refine (refBasis_in _ (k % 8) n hm8 hnl).mono ?_
                rintro e v4 ⟨rfl, q4⟩
                generalize T (k % 8) n = r at t2 H2
                go_wp2_with fail
                all_goals
                  exact ⟨⟨n + 1, by omega, by go_num, congrArg (Value.int IntKind.i64) (by rw [H1.out]; unfold absI; omega), congrArg (Value.int IntKind.i64) (by rw [H2.out]; unfold absI; omega), (((on.then q1).then q2).then q3).then q4⟩, by simp [intOf]; omega⟩
            · obtain rfl : n = 8 := by omega
              rw [ab_all, ab_all]
              have hn1 := HN.out k hlt
              have m1 := Ab_le ⟨k / 8, h8⟩
              have m2 := Ab_le ⟨k % 8, hm8⟩
              simp only at m1 m2
              have hp : -(64 * 64) ≤ Ab (k / 8) * Ab (k % 8) ∧ Ab (k / 8) * Ab (k % 8) ≤ 64 * 64 := mul_bd (by omega) (by omega)
              have hz := hZ k hlt
              have hy := hY k hlt
              have c1 := ((byb.only ol (by simp)).only on (by simp)).cell k
              rw [arr_get hlt] at c1
              have c2 := ((bb.only ol (by simp)).only on (by simp)).cell k
              rw [arr_get hlt] at c2
              have f1 : ∀ w', Cls wr w' → w'.cell? ⟨g1, k, none⟩ = some (.int .i64 (y k)) := fun w' h => h.cell c1
              have f2 : ∀ w', Cls wr w' → w'.cell? ⟨g3, k, none⟩ = some (.int .i64 (z k)) := fun w' h => h.cell c2
              have d1 : decide (Ab (k / 8) * Ab (k % 8) < 2 * (z k - y k)) = false := by simp; omega
              have d2 : decide (Ab (k / 8) * Ab (k % 8) < 2 * (y k - z k)) = false := by simp; omega
              generalize Ab (k / 8) = A8 at hn1 m1 hp d1 d2
              generalize Ab (k % 8) = B8 at hn1 m2 hp d1 d2
              go_wp2_with fail
              refine rgn (Cls wr) (by kernel_rfl) (by kernel_rfl) Cls.refl ?_
              repeat (first | (refine qU rfl ?_; simp only [Act.put, List.setIfInBounds_toArray, List.set_cons_zero, List.set_cons_succ]) | (refine qW ?_ rfl rfl (fun w hC K hK => ?_) ?_; rotate_left; (focus ((go_wp2_with fail) <;> exact hK _ hC)); simp only [Act.put, List.setIfInBounds_toArray, List.set_cons_zero, List.set_cons_succ]))
              refine qN ?_
              intro w' hw'
              go_wp2_with fail
              exact ⟨⟨k + 1, by omega, by go_num, (ol.then on).then hw'.only⟩, by simp [intOf]; omega⟩
        · obtain rfl : k = 64 := by omega
          go_wp2_with fail
          refine (awake_any _).mono ?_
          rintro e w8 ⟨rfl, o8⟩
          go_wp2_with fail
          go_ret
          exact ⟨rfl, (hob.then ol).then o8⟩
end Go.Proofs.Ytkpmndpocojnkaa.transformNear
