/- Contracts of chapter 6's matrices: DefaultInter, matrix, Valid, May, validQuant. -/
import Derived.Test.YtmjjdehicngffaaDoorH8
namespace Go.Proofs.YtmjjdehicngffaaDoor
open Go.RowKit

def flat : Nat → Int := fun _ => 16
theorem refDefault_any (w : World) : Calls Tryd.prog 15 #[] w fun e w' => e = .returned (.agg (arr .u8 64 flat)) ∧ Only [] w w' := by
  go_enter Tryd.func15, Tryd.ntmps15
  have tok : True := trivial
  go_wp2_with (first | (clear tok; refine al8 rfl rfl ?_; rintro g0 w1 b1 o1 l1) | (refine al8 rfl rfl ?_; rintro g1 w2 b2 o2 l2))
  have ho2 := o1.then o2
  have h02 := b1.only o2 (by simp)
  have hlt := b1.lt
  have hz := o1.size
  go_loopw [2] (fun i wr => ∃ k : Nat, k ≤ 64 ∧ i = .int .i64 k ∧ Only [] w wr ∧ Only [g1] w2 wr ∧ Blk wr g1 28 (arr .u8 64 (upto k flat))) (fun i _ => 64 - (intOf i).toNat)
  case atStart => exact ⟨0, by omega, rfl, ho2, Only.refl _ _, by rw [arr_upto_zero]; exact b2⟩
  case round =>
    obtain ⟨k, hk, rfl, ho, hoo, hb⟩ := hrel
    by_cases hkl : k < 64
    · have hd : decide ((k : Int) < 64) = true := by simp; omega
      have hcg := hb.cell k
      rw [arr_get hkl] at hcg
      have hfz := hb.frozen k
      obtain ⟨s1, s2⟩ := hb.set1 k (.int .u8 16)
      rw [arr_set_upto (x := flat) (v := 16) hkl rfl] at s1
      have On := Lib.hid (ho.own s2 (by omega))
      have Onn := Lib.hid (hoo.same s2)
      have Hb := Lib.hid s1
      clear s1 s2
      go_wp2_with fail
      exact ⟨⟨k + 1, by omega, by go_num, On.out, Onn.out, Hb.out⟩, by simp [intOf]; omega⟩
    · obtain rfl : k = 64 := by omega
      rw [arr_upto_all (by omega)] at hb
      have h0 := h02.only hoo (by simp; omega)
      go_wp2_with (first | refine ld8 hb rfl rfl rfl ?_ | (refine sr8 h0 rfl rfl rfl rfl ?_; rintro w6 b6 o6 e6))
      exact bodyPost_ret (res8 rfl b6 rfl) rfl ⟨rfl, ho.own o6 (by omega)⟩
theorem default_any (w : World) : Calls Tryd.prog 14 #[] w fun e w' => e = .returned (.agg (arr .u8 64 flat)) ∧ Only [] w w' := by
  go_enter Tryd.func14, Tryd.ntmps14
  have tok : True := trivial
  go_wp2_with (first | (clear tok; refine al8 rfl rfl ?_; rintro g0 w1 b1 o1 l1) | (refine al8 rfl rfl ?_; rintro g1 w2 b2 o2 l2))
  have ho2 := o1.then o2
  have h02 := b1.only o2 (by simp)
  have hlt := b1.lt
  have hz := o1.size
  go_loopw [3] (fun i wr => ∃ k : Nat, k ≤ 64 ∧ i = .int .i64 k ∧ Only [] w wr ∧ Only [g1] w2 wr ∧ Blk wr g1 28 (arr .u8 64 (upto k flat))) (fun i _ => 64 - (intOf i).toNat)
  case atStart => exact ⟨0, by omega, rfl, ho2, Only.refl _ _, by rw [arr_upto_zero]; exact b2⟩
  case round =>
    obtain ⟨k, hk, rfl, ho, hoo, hb⟩ := hrel
    by_cases hkl : k < 64
    · have hd : decide ((k : Int) < 64) = true := by simp; omega
      have hcg := hb.cell k
      rw [arr_get hkl] at hcg
      have hfz := hb.frozen k
      obtain ⟨s1, s2⟩ := hb.set1 k (.int .u8 16)
      rw [arr_set_upto (x := flat) (v := 16) hkl rfl] at s1
      have On := Lib.hid (ho.own s2 (by omega))
      have Onn := Lib.hid (hoo.same s2)
      have Hb := Lib.hid s1
      clear s1 s2
      go_wp2_with fail
      exact ⟨⟨k + 1, by omega, by go_num, On.out, Onn.out, Hb.out⟩, by simp [intOf]; omega⟩
    · obtain rfl : k = 64 := by omega
      rw [arr_upto_all (by omega)] at hb
      have h0 := h02.only hoo (by simp; omega)
      go_wp2_with (first | refine ld8 hb rfl rfl rfl ?_ | (refine sr8 h0 rfl rfl rfl rfl ?_; rintro w6 b6 o6 e6))
      exact bodyPost_ret (res8 rfl b6 rfl) rfl ⟨rfl, ho.own o6 (by omega)⟩

/-- The matrix of some bytes; entries that are missing are 16. -/
def matOf (p : List Nat) : Nat → Int := fun j => if j < p.length then (p.getD j 0 : Int) else 16
/-- The first k entries from x, the others from y. -/
def mix (k : Nat) (x y : Nat → Int) : Nat → Int := fun j => if j < k then x j else y j
theorem arr_set_mix {kk : IntKind} {n m : Nat} {x y : Nat → Int} {v : Int} (h : m < n) (hv : x m = v) : (arr kk n (mix m x y)).setIfInBounds m (.int kk v) = arr kk n (mix (m + 1) x y) := by
  rw [arr_set v h]
  apply arr_congr
  intro j _
  unfold upd mix
  by_cases h1 : j = m
  · subst h1; simp [hv]
  · rw [if_neg h1]
    by_cases h2 : j < m
    · rw [if_pos h2, if_pos (by omega)]
    · rw [if_neg h2, if_neg (by omega)]
theorem arr_mix_zero {kk : IntKind} {n : Nat} {x y : Nat → Int} : arr kk n (mix 0 x y) = arr kk n y := arr_congr (fun j _ => by simp [mix])
theorem matOf_U8 {p : List Nat} (hp : ∀ x ∈ p, x < 256) : U8 (matOf p) := by
  intro j _
  unfold matOf
  split
  · rename_i h
    have e : p.getD j 0 = p[j] := by simp [h]
    have := hp _ (List.getElem_mem h)
    rw [e]; omega
  · omega
/-- The first n entries are at least 8. -/
def vld (m : Nat → Int) (n : Nat) : Bool := (List.range n).all fun j => decide (8 ≤ m j)
theorem vld_true {m : Nat → Int} {n : Nat} : vld m n = true ↔ ∀ j, j < n → 8 ≤ m j := by simp [vld]
theorem vld_succ {m : Nat → Int} {n : Nat} (h : vld m n = true) (h' : 8 ≤ m n) : vld m (n + 1) = true := by
  rw [vld_true] at h ⊢
  intro j hj
  rcases Nat.lt_or_ge j n with h1 | h1
  · exact h j h1
  · obtain rfl : j = n := by omega
    exact h'
theorem vld_false {m : Nat → Int} {n j : Nat} (h : j < n) (h' : m j < 8) : vld m n = false := by
  rw [Bool.eq_false_iff]
  intro ht
  have := vld_true.1 ht j h
  omega
theorem valid_any (w : World) (m : Nat → Int) : Calls Tryd.prog 22 #[.agg (arr .u8 64 m)] w fun e w' => e = .returned (.bool (vld m 64)) ∧ Only [] w w' := by
  go_enter Tryd.func22, Tryd.ntmps22
  go_wp2_with (first | (refine bx8 (x := m) rfl rfl rfl ?_; rintro g1 w1 b1 o1 l1) | refine ld8 b1 rfl rfl rfl ?_)
  go_loop [6] (fun i => ∃ k : Nat, k ≤ 64 ∧ vld m k = true ∧ i = .int .i64 k) (fun i => 64 - (intOf i).toNat)
  case atStart => exact ⟨0, by omega, rfl, rfl⟩
  case round =>
    obtain ⟨k, hk, hin, rfl⟩ := hrel
    have Hin := Lib.hid hin
    clear hin
    by_cases hlt : k < 64
    · have hd : decide ((k : Int) < 64) = true := by simp; omega
      have hat := idxB m k hlt
      by_cases h1 : m k < 8
      · go_wp2
        go_ret
        exact ⟨congrArg Ending.returned (congrArg Value.bool (vld_false hlt h1).symm), o1⟩
      · go_wp2
        exact ⟨⟨k + 1, by omega, vld_succ Hin.out (by omega), by go_num⟩, by simp [intOf]; omega⟩
    · obtain rfl : k = 64 := by omega
      go_wp2
      go_ret
      exact ⟨congrArg Ending.returned (congrArg Value.bool Hin.out.symm), o1⟩

/-- q is a quantiser. -/
def vq (q : Int) : Bool := decide (1 ≤ q ∧ q ≤ 31)
theorem vq_true {q : Int} : vq q = true ↔ 1 ≤ q ∧ q ≤ 31 := by simp [vq]
theorem vq_any (w : World) (q : Int) : Calls Tryd.prog 23 #[.int .i64 q] w fun e w' => e = .returned (.bool (vq q)) ∧ w = w' := by
  have hv : vq q = decide (1 ≤ q ∧ q ≤ 31) := rfl
  have HV := Lib.hid hv
  clear hv
  by_cases h1 : 1 ≤ q
  · have d1 : decide (1 ≤ q) = true := by simpa using h1
    by_cases h2 : q ≤ 31
    · have d2 : decide (q ≤ 31) = true := by simpa using h2
      go_enter Tryd.func23, Tryd.ntmps23
      go_wp2
      go_ret
      exact ⟨by rw [HV.out]; simp [h1, h2], rfl⟩
    · have d2 : decide (q ≤ 31) = false := by simpa using h2
      go_enter Tryd.func23, Tryd.ntmps23
      go_wp2
      go_ret
      exact ⟨by rw [HV.out]; simp [h2], rfl⟩
  · have d1 : decide (1 ≤ q) = false := by simpa using h1
    go_enter Tryd.func23, Tryd.ntmps23
    go_wp2
    go_ret
    exact ⟨by rw [HV.out, decide_eq_false (by omega)]; rfl, rfl⟩
def mayB (m : Nat → Int) (q : Int) : Bool := vld m 64 && vq q
end Go.Proofs.YtmjjdehicngffaaDoor
