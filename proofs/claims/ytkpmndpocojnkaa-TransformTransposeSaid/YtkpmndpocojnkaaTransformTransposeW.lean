/- TransformTranspose: the walk. -/
import Derived.Test.YtkpmndpocojnkaaTb
import Derived.Test.YtkpmndpocojnkaaRegA
namespace Go.Proofs.Ytkpmndpocojnkaa.transformTranspose
open Go.RowKit

/-- The first k elements of x at their places in the transposed block. -/
def part (k : Nat) (x : Nat → Int) : Nat → Int := fun j => if 8 * (j % 8) + j / 8 < k then tr x j else 0
theorem arr_part_zero {x : Nat → Int} : arr .i64 64 (part 0 x) = arr .i64 64 (fun _ => 0) := arr_congr (fun j _ => by simp [part])
theorem arr_part_all {x : Nat → Int} : arr .i64 64 (part 64 x) = arr .i64 64 (tr x) := arr_congr (fun j hj => by unfold part; rw [if_pos (by omega)])
theorem arr_set_part {k : Nat} {x : Nat → Int} (h : k < 64) : (arr .i64 64 (part k x)).setIfInBounds (k % 8 * 8 + k / 8) (.int .i64 (x k)) = arr .i64 64 (part (k + 1) x) := by
  rw [arr_set _ (by omega)]
  apply arr_congr
  intro j hj
  unfold upd part
  by_cases h1 : j = k % 8 * 8 + k / 8
  · rw [if_pos h1, if_pos (by omega)]
    unfold tr
    congr 1
    omega
  · rw [if_neg h1]
    by_cases h2 : 8 * (j % 8) + j / 8 < k
    · rw [if_pos h2, if_pos (by omega)]
    · rw [if_neg h2, if_neg (by omega)]
theorem tr_I64 {x : Nat → Int} (h : I64 64 x) : I64 64 (tr x) := fun j hj => h _ (by omega)
theorem tr_inside (x : Nat → Int) : inside (tr x) 255 64 = inside x 255 64 := by
  cases h : inside x 255 64 with
  | true => exact inside_true.2 (fun j hj => inside_true.1 h _ (by omega))
  | false =>
    rw [Bool.eq_false_iff] at h ⊢
    intro ht
    apply h
    refine inside_true.2 (fun j hj => ?_)
    have := inside_true.1 ht (8 * (j % 8) + j / 8) (by omega)
    unfold tr at this
    rwa [show (8 * ((8 * (j % 8) + j / 8) % 8) + (8 * (j % 8) + j / 8) / 8) = j by omega] at this
theorem fwd_tr (x : Nat → Int) (k : Nat) (hk : k < 64) : fwd (tr x) (k % 8 * 8 + k / 8) = fwd x k := by
  unfold fwd
  rw [tr_inside]
  split
  · have := fw_tr x (k / 8) (k % 8) (by omega) (by omega)
    rwa [at8, Nat.mul_comm 8] at this
  · rfl
theorem fwe_tr (x : Nat → Int) : fwe (tr x) = fwe x := by unfold fwe; rw [tr_inside]
theorem inv_tr' (x : Nat → Int) (k : Nat) (hk : k < 64) : inv (tr x) (k % 8 * 8 + k / 8) = inv x k := by
  have := inv_tr x (k / 8) (k % 8) (by omega) (by omega)
  rwa [at8, Nat.mul_comm 8] at this

set_option maxHeartbeats 1000000 in
theorem walk (w : World) (A : Option Addr) (c : Nat) (l : List Int) (hr : Reads w A 1 l.length (l.map (Value.int .i64))) (hm : l.length ≤ maxLen) (hb : ∀ z ∈ l, -9223372036854775808 ≤ z ∧ z ≤ 9223372036854775807) :
    Calls Try.prog 7 #[.slice A l.length c] w fun e w' => e = .returned (.bool true) ∧ Only [] w w' := by
  have hI := blockOf_I64 hb
  generalize hx : blockOf l = x at hI
  have HX := Lib.hid hx
  clear hx
  have hJ := tr_I64 hI
  go_enter Try.func7, Try.ntmps7
  go_wp2_with fail
  refine (block_any _ A c l hr hm).mono ?_
  rintro e w1 ⟨rfl, o1⟩
  rw [HX.out]
  have tok : True := trivial
  go_wp2_with (first | (clear tok; refine al64 rfl rfl ?_; rintro g1 w2 b2 o2 l2) | (refine sr64 b2 rfl rfl rfl rfl ?_; rintro w3 b3 o3 e3) | (refine al64 rfl rfl ?_; rintro g2 w4 b4 o4 l4))
  have hg1 := b2.lt
  have hx4 := b3.only o4 (by simp)
  have ho4 := ((o1.then o2).own o3 (by have := o1.size; omega)).then o4
  have hle : w.heap.size ≤ g2 := by have := o1.size; have := o2.size; omega
  have ht4 : Blk w4 g2 23 (arr .i64 64 (part 0 x)) := by rw [arr_part_zero]; exact b4
  clear o1 o2 o3 o4 b2 b3 b4
  go_loopw [5] (fun i wr => ∃ k : Nat, k ≤ 64 ∧ i = .int .i64 k ∧ Only [] w wr ∧ Only [g2] w4 wr ∧ Blk wr g2 23 (arr .i64 64 (part k x))) (fun i _ => 64 - (intOf i).toNat)
  case atStart => exact ⟨0, by omega, rfl, ho4, Only.refl _ _, ht4⟩
  case round =>
    obtain ⟨k, hk, rfl, ho, hoo, ht1⟩ := hrel
    by_cases hlt : k < 64
    · have hd : decide ((k : Int) < 64) = true := by simp; omega
      have c1 := (hx4.only hoo (by simp; omega)).cell k
      rw [arr_get hlt] at c1
      have c2 := ht1.cell (k % 8 * 8 + k / 8)
      rw [arr_get (by omega)] at c2
      have hfz := ht1.frozen (k % 8 * 8 + k / 8)
      have i1 : k % 8 * 8 + k / 8 < 64 := by omega
      obtain ⟨s1, s2⟩ := ht1.set1 (k % 8 * 8 + k / 8) (.int .i64 (x k))
      rw [arr_set_part hlt] at s1
      have On := Lib.hid (ho.own s2 hle)
      have Onn := Lib.hid (hoo.same s2)
      have Hb := Lib.hid s1
      clear s1 s2
      go_wp2_with fail
      exact ⟨⟨k + 1, by omega, by go_num, On.out, Onn.out, Hb.out⟩, by simp [intOf]; omega⟩
    · obtain rfl : k = 64 := by omega
      rw [arr_part_all] at ht1
      have hx5 := hx4.only hoo (by simp; omega)
      have ht5 := ht1
      have ho5 := ho
      obtain ⟨w5, rfl⟩ : ∃ w5, w5 = wr := ⟨_, rfl⟩
      clear hx4 ht4 ht1 ho hoo ho4
      go_wp2_with (refine ld64 (x := x) (g := g1) hx5 rfl rfl rfl ?_)
      refine (forward_both _ x hI).mono ?_
      rintro e w6 ⟨rfl, o6⟩
      have ht6 := ht5.only o6 (by simp)
      have hx6 := hx5.only o6 (by simp)
      have ho6 := ho5.then o6
      clear ho5 ht5 hx5 o6
      go_wp2_with (first | (refine al64 rfl rfl ?_; rintro g3 w7 b7 o7 l7) | (refine sr64 b7 rfl rfl rfl rfl ?_; rintro w8 b8 o8 e8) | (have ht8 := (ht6.only o7 (by simp)).only o8 (by have := ht6.lt; simp; omega); refine ld64 (x := tr x) (g := g2) ht8 rfl rfl rfl ?_))
      have hx8 := (hx6.only o7 (by simp)).only o8 (by have := hx6.lt; simp; omega)
      have ho8 := (ho6.then o7).own o8 (by have := ho6.size; omega)
      clear o7 o8 b7 ho6 hx6 ht6
      refine (forward_both _ (tr x) hJ).mono ?_
      rintro e w9 ⟨rfl, o9⟩
      rw [fwe_tr]
      have ht9 := ht8.only o9 (by simp)
      have hx9 := hx8.only o9 (by simp)
      have ha9 := b8.only o9 (by simp)
      have ho9 := ho8.then o9
      clear ho8 hx8 ht8 b8 o9
      go_wp2_with (first | (refine al64 rfl rfl ?_; rintro g4 wa ba oa la) | (refine sr64 ba rfl rfl rfl rfl ?_; rintro wb bb ob eb))
      have htb := (ht9.only oa (by simp)).only ob (by have := ht9.lt; simp; omega)
      have hxb := (hx9.only oa (by simp)).only ob (by have := hx9.lt; simp; omega)
      have hab := (ha9.only oa (by simp)).only ob (by have := ha9.lt; simp; omega)
      have hob := (ho9.then oa).own ob (by have := ho9.size; omega)
      clear oa ob ba ho9 ht9 hx9 ha9
      refine rgnA2 23 _ _ 6 4 5 10 11 (by kernel_rfl) (by kernel_rfl) (by kernel_rfl) (by kernel_rfl) (by kernel_rfl) (by kernel_rfl) (by decide) zero64 rfl ?_
      simp only [List.take_succ_cons, List.take_zero, List.drop_succ_cons, List.drop_zero]
      refine oR _ hxb rfl rfl rfl rfl Try.underlying23 rfl (info_of_arr _) ?_
      simp only [Act.put, List.setIfInBounds_toArray, List.set_cons_zero, List.set_cons_succ]
      refine oC (fun w hC => (inverse_any w x hI)) rfl rfl (fun w => ?_) ?_
      · go_simp; try rfl
      simp only [Act.put, List.setIfInBounds_toArray, List.set_cons_zero, List.set_cons_succ]
      refine oR _ htb rfl rfl rfl rfl Try.underlying23 rfl (info_of_arr _) ?_
      simp only [Act.put, List.setIfInBounds_toArray, List.set_cons_zero, List.set_cons_succ]
      refine oC (fun w hC => (inverse_any w (tr x) hJ)) rfl rfl (fun w => ?_) ?_
      · go_simp; try rfl
      simp only [Act.put, List.setIfInBounds_toArray, List.set_cons_zero, List.set_cons_succ]
      refine oA rfl ?_
      refine oA rfl ?_
      refine oN ?_
      intro ga gb w' hw' hba hbb hla hlb hne
      simp only [List.setIfInBounds_toArray, List.set_cons_zero, List.set_cons_succ]
      have tok : True := trivial
      go_wp2_with (first | (clear tok; refine sr64 hba rfl rfl rfl rfl ?_; rintro wc bc oc ec) | (have hbb' := hbb.only oc (by simp; omega); refine sr64 hbb' rfl rfl rfl rfl ?_; rintro wd bd od ed))
      have q1 := (hw'.blk hab).lt
      have q2 := (hw'.blk bb).lt
      have q3 := hab.lt
      have q4 := bb.lt
      have fa := ((hw'.blk hab).only oc (by simp; omega)).only od (by simp; omega)
      have fb := ((hw'.blk bb).only oc (by simp; omega)).only od (by simp; omega)
      have fc := bc.only od (by simp; omega)
      have hod := ((hob.then hw'.only).own oc (by have := hob.size; omega)).own od (by have := hob.size; omega)
      clear oc od hba hbb hbb' bc hab bb hob
      go_loopw [12] (fun i wr => ∃ k : Nat, k ≤ 64 ∧ i = .int .i64 k ∧ Only [] wd wr) (fun i _ => 64 - (intOf i).toNat)
      case atStart => exact ⟨0, by omega, rfl, Only.refl _ _⟩
      case round =>
        obtain ⟨k, hk, rfl, ol⟩ := hrel
        by_cases hlt : k < 64
        · have hd : decide ((k : Int) < 64) = true := by simp; omega
          have i1 : k % 8 * 8 + k / 8 < 64 := by omega
          have c1 := (fa.only ol (by simp)).cell k
          have c2 := (fb.only ol (by simp)).cell (k % 8 * 8 + k / 8)
          have c3 := (fc.only ol (by simp)).cell k
          have c4 := (bd.only ol (by simp)).cell (k % 8 * 8 + k / 8)
          rw [arr_get (by omega)] at c1 c2 c3 c4
          rw [fwd_tr x k hlt] at c2
          rw [inv_tr' x k hlt] at c4
          have f1 : ∀ w', Cls wr w' → w'.cell? ⟨g3, k, none⟩ = some (.int .i64 (fwd x k)) := fun w' h => h.cell c1
          have f2 : ∀ w', Cls wr w' → w'.cell? ⟨g4, k % 8 * 8 + k / 8, none⟩ = some (.int .i64 (fwd x k)) := fun w' h => h.cell c2
          have f3 : ∀ w', Cls wr w' → w'.cell? ⟨ga, k, none⟩ = some (.int .i64 (inv x k)) := fun w' h => h.cell c3
          have f4 : ∀ w', Cls wr w' → w'.cell? ⟨gb, k % 8 * 8 + k / 8, none⟩ = some (.int .i64 (inv x k)) := fun w' h => h.cell c4
          go_wp2_with fail
          refine rgn (Cls wr) (by kernel_rfl) (by kernel_rfl) Cls.refl ?_
          repeat (first | (refine qU rfl ?_; simp only [Act.put, List.setIfInBounds_toArray, List.set_cons_zero, List.set_cons_succ]) | (refine qW ?_ rfl rfl (fun w hC K hK => ?_) ?_; rotate_left; (focus ((go_wp2_with fail) <;> exact hK _ hC)); simp only [Act.put, List.setIfInBounds_toArray, List.set_cons_zero, List.set_cons_succ]))
          refine qN ?_
          intro wz hwz
          go_wp2_with fail
          exact ⟨⟨k + 1, by omega, by go_num, ol.then hwz.only⟩, by simp [intOf]; omega⟩
        · obtain rfl : k = 64 := by omega
          go_wp2_with fail
          refine (awake_any _).mono ?_
          rintro e we ⟨rfl, oe⟩
          go_wp2_with fail
          go_ret
          exact ⟨rfl, (hod.then ol).then oe⟩
end Go.Proofs.Ytkpmndpocojnkaa.transformTranspose
