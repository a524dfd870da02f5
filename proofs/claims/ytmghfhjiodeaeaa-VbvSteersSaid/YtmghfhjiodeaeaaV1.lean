/- Contracts of the rational numbers' gcd, magnitude and Valid, in the program and in the reference. -/
import Derived.Test.YtmghfhjiodeaeaaProg
import Derived.Test.YtmghfhjiodeaeaaReg
import Derived.Test.YtmghfhjiodeaeaaHeap
import Derived.Deep.MidRow
namespace Go.Proofs.Ytmghfhjiodeaeaa
open Go.RowKit

theorem refGcd_any (w : World) (a b : Nat) (ha : a < 18446744073709551616) (hb : b < 18446744073709551616) :
    Calls Try.prog 45 #[.int .u64 (a : Int), .int .u64 (b : Int)] w fun e w' => e = .returned (.int .u64 (Nat.gcd a b : Int)) ∧ Only [] w w' := by
  go_enter Try.func45, Try.ntmps45
  go_wp2_with fail
  go_loopw [0, 1] (fun u v wr => ∃ x y : Nat, x < 18446744073709551616 ∧ y < 18446744073709551616 ∧ u = .int .u64 x ∧ v = .int .u64 y ∧ Nat.gcd x y = Nat.gcd a b ∧ Only [] w wr) (fun _ v _ => (intOf v).toNat)
  case atStart => exact ⟨a, b, ha, hb, rfl, rfl, rfl, Only.refl _ _⟩
  case round =>
    obtain ⟨x, y, hx, hy, rfl, rfl, hg, ho⟩ := hrel
    have HG := Lib.hid hg
    clear hg
    by_cases h0 : y = 0
    · subst h0
      go_wp2_with fail
      go_ret
      exact ⟨congrArg Ending.returned (congrArg (Value.int IntKind.u64) (by rw [← HG.out]; simp)), ho⟩
    · have n0 : ((y : Int) == 0) = false := by simp; omega
      have n1 : ¬ (y : Int) = 0 := by omega
      have n2 : ((y : Int) != 0) = true := by simp; omega
      have hm : x % y < y := Nat.mod_lt _ (by omega)
      go_wp2_with fail
      refine rgn (Cls wr) (by kernel_rfl) (by kernel_rfl) Cls.refl ?_
      repeat (first | (refine qU rfl ?_; simp only [Act.put, List.setIfInBounds_toArray, List.set_cons_zero, List.set_cons_succ]) | (refine qW ?_ rfl rfl (fun w hC K hK => ?_) ?_; rotate_left; (focus ((go_wp2_with fail) <;> exact hK _ hC)); simp only [Act.put, List.setIfInBounds_toArray, List.set_cons_zero, List.set_cons_succ]))
      refine qN ?_
      intro w' hw'
      go_wp2_with fail
      exact ⟨⟨y, x % y, hy, by omega, rfl, by go_num, by rw [← HG.out, Nat.gcd_comm x y, Nat.gcd_rec y x, Nat.gcd_comm], ho.then hw'.only⟩, by simp [intOf]; omega⟩

theorem gcd_any (w : World) (a b : Nat) (ha : a < 18446744073709551616) (hb : b < 18446744073709551616) :
    Calls Try.prog 47 #[.int .u64 (a : Int), .int .u64 (b : Int)] w fun e w' => e = .returned (.int .u64 (Nat.gcd a b : Int)) ∧ Only [] w w' := by
  go_enter Try.func47, Try.ntmps47
  go_wp2_with fail
  go_loopw [0, 1] (fun u v wr => ∃ x y : Nat, x < 18446744073709551616 ∧ y < 18446744073709551616 ∧ u = .int .u64 x ∧ v = .int .u64 y ∧ Nat.gcd x y = Nat.gcd a b ∧ Only [] w wr) (fun _ v _ => (intOf v).toNat)
  case atStart => exact ⟨a, b, ha, hb, rfl, rfl, rfl, Only.refl _ _⟩
  case round =>
    obtain ⟨x, y, hx, hy, rfl, rfl, hg, ho⟩ := hrel
    have HG := Lib.hid hg
    clear hg
    by_cases h0 : y = 0
    · subst h0
      go_wp2_with fail
      go_ret
      exact ⟨congrArg Ending.returned (congrArg (Value.int IntKind.u64) (by rw [← HG.out]; simp)), ho⟩
    · have n0 : ((y : Int) == 0) = false := by simp; omega
      have n1 : ¬ (y : Int) = 0 := by omega
      have n2 : ((y : Int) != 0) = true := by simp; omega
      have hm : x % y < y := Nat.mod_lt _ (by omega)
      go_wp2_with fail
      refine rgn (Cls wr) (by kernel_rfl) (by kernel_rfl) Cls.refl ?_
      repeat (first | (refine qU rfl ?_; simp only [Act.put, List.setIfInBounds_toArray, List.set_cons_zero, List.set_cons_succ]) | (refine qW ?_ rfl rfl (fun w hC K hK => ?_) ?_; rotate_left; (focus ((go_wp2_with fail) <;> exact hK _ hC)); simp only [Act.put, List.setIfInBounds_toArray, List.set_cons_zero, List.set_cons_succ]))
      refine qN ?_
      intro w' hw'
      go_wp2_with fail
      exact ⟨⟨y, x % y, hy, by omega, rfl, by go_num, by rw [← HG.out, Nat.gcd_comm x y, Nat.gcd_rec y x, Nat.gcd_comm], ho.then hw'.only⟩, by simp [intOf]; omega⟩

def Big (n : Int) : Prop := -9223372036854775808 ≤ n ∧ n ≤ 9223372036854775807
theorem refMag_any (w : World) (n : Int) (hn : Big n) : Calls Try.prog 46 #[.int .i64 n] w fun e w' => e = .returned (.int .u64 (n.natAbs : Int)) ∧ w = w' := by
  unfold Big at hn
  by_cases h : n < 0
  · have d : decide (n < 0) = true := by simpa using h
    go_enter Try.func46, Try.ntmps46
    go_wp2
    go_ret
    exact ⟨congrArg Ending.returned (congrArg (Value.int IntKind.u64) (by omega)), rfl⟩
  · have d : decide (n < 0) = false := by simpa using h
    go_enter Try.func46, Try.ntmps46
    go_wp2
    go_ret
    exact ⟨congrArg Ending.returned (congrArg (Value.int IntKind.u64) (by omega)), rfl⟩
theorem u64_negneg (z : Int) (h : 0 < z ∧ z ≤ 9223372036854775808) : IntKind.u64.wrap (-IntKind.u64.wrap (-z)) = z := by
  have h1 : IntKind.u64.wrap (-z) = 18446744073709551616 - z := by
    simp [IntKind.wrap, IntKind.bits, IntKind.signed]; omega
  rw [h1]
  simp [IntKind.wrap, IntKind.bits, IntKind.signed]; omega
theorem mag_any (w : World) (n : Int) (hn : Big n) : Calls Try.prog 48 #[.int .i64 n] w fun e w' => e = .returned (.int .u64 (n.natAbs : Int)) ∧ w = w' := by
  unfold Big at hn
  by_cases h : n < 0
  · obtain ⟨z, rfl⟩ : ∃ z, n = -z := ⟨-n, by omega⟩
    have d : decide (0 < z) = true := by simp; omega
    have hz : 0 < z := by omega
    have H := Lib.hid (u64_negneg z (by omega))
    go_enter Try.func48, Try.ntmps48
    go_wp2
    go_ret
    exact ⟨congrArg Ending.returned (congrArg (Value.int IntKind.u64) (H.out.trans (by omega))), rfl⟩
  · have d : decide (n < 0) = false := by simpa using h
    go_enter Try.func48, Try.ntmps48
    go_wp2
    go_ret
    exact ⟨congrArg Ending.returned (congrArg (Value.int IntKind.u64) (by omega)), rfl⟩
/-- A rate is a number in lowest terms. -/
def RV (num den : Int) : Prop := 1 ≤ den ∧ -9223372036854775807 ≤ num ∧ Nat.gcd num.natAbs den.natAbs = 1
instance (num den : Int) : Decidable (RV num den) := by unfold RV; infer_instance
section
variable {ops : Array Oper} {rest : List Oper} {o : Oper} {a : Act} {w : World} {Q : Exit → Act → World → Prop} {X Y : Operand}
theorem bxRat {num den : Int} (hgd : o.guard = none) (ho : o.op = .box 23 X) (hv : a.eval X = .agg #[.int .i64 num, .int .i64 den]) (k : ∀ g w', Blk w' g 23 #[.int .i64 num, .int .i64 den] → Only [] w w' → w.heap.size ≤ g → wpList Try.prog ops Q rest (a.put o.dst (.pointer (some ⟨g, 0, none⟩))) w') : wpList Try.prog ops Q (o :: rest) a w :=
  wbx _ _ hgd ho hv rfl k
end

set_option maxHeartbeats 2000000 in
theorem refRat_any (w : World) (num den : Int) (hn : Big num) (hd : Big den) :
    Calls Try.prog 39 #[.agg #[.int .i64 num, .int .i64 den]] w fun e w' => e = .returned (.bool (decide (RV num den))) ∧ Only [] w w' := by
  have HR := Lib.hid (show decide (RV num den) = decide (1 ≤ den ∧ -9223372036854775807 ≤ num ∧ Nat.gcd num.natAbs den.natAbs = 1) from rfl)
  have hn' := hn
  have hd' := hd
  unfold Big at hn' hd'
  go_enter Try.func39, Try.ntmps39
  go_wp2_with (refine bxRat rfl rfl rfl ?_; rintro g1 w1 b1 o1 l1)
  have c0 : w1.cell? ⟨g1, 0, none⟩ = some (.int .i64 num) := b1.cell 0
  have c1 : w1.cell? ⟨g1, 1, none⟩ = some (.int .i64 den) := b1.cell 1
  have f0 : ∀ w', Cls w1 w' → w'.cell? ⟨g1, 0, none⟩ = some (.int .i64 num) := fun w' h => h.cell c0
  have f1 : ∀ w', Cls w1 w' → w'.cell? ⟨g1, 1, none⟩ = some (.int .i64 den) := fun w' h => h.cell c1
  by_cases h1 : 1 ≤ den
  · have d1 : decide (1 ≤ den) = true := by simpa using h1
    by_cases h2 : -9223372036854775807 ≤ num
    · have d2 : decide (-9223372036854775807 ≤ num) = true := by simp; omega
      obtain ⟨dn, rfl⟩ := Int.eq_ofNat_of_zero_le (show 0 ≤ den by omega)
      have HG := Lib.hid (show (((dn : Int)).natAbs) = dn from by omega)
      generalize hgg : Nat.gcd num.natAbs dn = G
      have HGG := Lib.hid hgg
      clear hgg
      have hmag : num.natAbs < 18446744073709551616 := by omega
      have dg : ((G : Int) == 1) = decide (G = 1) := by
        by_cases hG : G = 1 <;> simp [hG] <;> omega
      refine rgn (Cls w1) (by kernel_rfl) (by kernel_rfl) Cls.refl ?_
      repeat (first | (refine qU rfl ?_; simp only [Act.put, List.setIfInBounds_toArray, List.set_cons_zero, List.set_cons_succ]) | (refine qW ?_ rfl rfl (fun w hC K hK => ?_) ?_; rotate_left; (focus ((go_wp2_with fail) <;> exact hK _ hC)); simp only [Act.put, List.setIfInBounds_toArray, List.set_cons_zero, List.set_cons_succ]))
      refine qC (fun w hC => Calls.cls_same hC (refMag_any w num hn)) rfl (fun w => ?_) ?_
      · go_simp; try rfl
      simp only [Act.put, List.setIfInBounds_toArray, List.set_cons_zero, List.set_cons_succ]
      repeat (first | (refine qU rfl ?_; simp only [Act.put, List.setIfInBounds_toArray, List.set_cons_zero, List.set_cons_succ]) | (refine qW ?_ rfl rfl (fun w hC K hK => ?_) ?_; rotate_left; (focus ((go_wp2_with fail) <;> exact hK _ hC)); simp only [Act.put, List.setIfInBounds_toArray, List.set_cons_zero, List.set_cons_succ]))
      refine qC (fun w hC => Calls.cls hC (HGG.out ▸ refGcd_any w num.natAbs dn hmag (by omega))) rfl (fun w => ?_) ?_
      · go_simp; try rfl
      simp only [Act.put, List.setIfInBounds_toArray, List.set_cons_zero, List.set_cons_succ]
      repeat (first | (refine qU rfl ?_; simp only [Act.put, List.setIfInBounds_toArray, List.set_cons_zero, List.set_cons_succ]) | (refine qW ?_ rfl rfl (fun w hC K hK => ?_) ?_; rotate_left; (focus ((go_wp2_with fail) <;> exact hK _ hC)); simp only [Act.put, List.setIfInBounds_toArray, List.set_cons_zero, List.set_cons_succ]))
      refine qN ?_
      intro w' hw'
      go_wp2_with fail
      go_ret
      refine ⟨congrArg Ending.returned (congrArg Value.bool ?_), o1.then hw'.only⟩
      rw [HR.out, HG.out]
      have hgg := HGG.out
      simp [h1, h2, hgg]
    · obtain rfl : num = -9223372036854775808 := by omega
      clear h2 hn hn' hd hd' c0 c1 h1
      refine rgn (Cls w1) (by kernel_rfl) (by kernel_rfl) Cls.refl ?_
      repeat (first | (refine qU rfl ?_; simp only [Act.put, List.setIfInBounds_toArray, List.set_cons_zero, List.set_cons_succ]) | (refine qW ?_ rfl rfl (fun w hC K hK => ?_) ?_; rotate_left; (focus ((go_wp2_with fail) <;> exact hK _ hC)); simp only [Act.put, List.setIfInBounds_toArray, List.set_cons_zero, List.set_cons_succ]))
      refine qN ?_
      intro w' hw'
      go_wp2_with fail
      go_ret
      exact ⟨congrArg Ending.returned (congrArg Value.bool (by rw [HR.out]; exact (decide_eq_false (fun h => absurd h.2.1 (by omega))).symm)), o1.then hw'.only⟩
  · have d1 : decide (1 ≤ den) = false := by simpa using h1
    have h1' : den < 1 := by omega
    clear h1 hn hd hn' hd' c0 c1
    refine rgn (Cls w1) (by kernel_rfl) (by kernel_rfl) Cls.refl ?_
    repeat (first | (refine qU rfl ?_; simp only [Act.put, List.setIfInBounds_toArray, List.set_cons_zero, List.set_cons_succ]) | (refine qW ?_ rfl rfl (fun w hC K hK => ?_) ?_; rotate_left; (focus ((go_wp2_with fail) <;> exact hK _ hC)); simp only [Act.put, List.setIfInBounds_toArray, List.set_cons_zero, List.set_cons_succ]))
    refine qN ?_
    intro w' hw'
    go_wp2_with fail
    go_ret
    exact ⟨congrArg Ending.returned (congrArg Value.bool (by rw [HR.out]; exact (decide_eq_false (fun h => absurd h.1 (by omega))).symm)), o1.then hw'.only⟩

set_option maxHeartbeats 2000000 in
theorem rat_any (w : World) (num den : Int) (hn : Big num) (hd : Big den) :
    Calls Try.prog 42 #[.agg #[.int .i64 num, .int .i64 den]] w fun e w' => e = .returned (.bool (decide (RV num den))) ∧ Only [] w w' := by
  have HR := Lib.hid (show decide (RV num den) = decide (1 ≤ den ∧ -9223372036854775807 ≤ num ∧ Nat.gcd num.natAbs den.natAbs = 1) from rfl)
  have hn' := hn
  have hd' := hd
  unfold Big at hn' hd'
  go_enter Try.func42, Try.ntmps42
  go_wp2_with (refine bxRat rfl rfl rfl ?_; rintro g1 w1 b1 o1 l1)
  have c0 : w1.cell? ⟨g1, 0, none⟩ = some (.int .i64 num) := b1.cell 0
  have c1 : w1.cell? ⟨g1, 1, none⟩ = some (.int .i64 den) := b1.cell 1
  have f0 : ∀ w', Cls w1 w' → w'.cell? ⟨g1, 0, none⟩ = some (.int .i64 num) := fun w' h => h.cell c0
  have f1 : ∀ w', Cls w1 w' → w'.cell? ⟨g1, 1, none⟩ = some (.int .i64 den) := fun w' h => h.cell c1
  by_cases h1 : 1 ≤ den
  · have d1 : decide (1 ≤ den) = true := by simpa using h1
    by_cases h2 : -9223372036854775807 ≤ num
    · have d2 : decide (-9223372036854775808 < num) = true := by simp; omega
      obtain ⟨dn, rfl⟩ := Int.eq_ofNat_of_zero_le (show 0 ≤ den by omega)
      have HG := Lib.hid (show (((dn : Int)).natAbs) = dn from by omega)
      generalize hgg : Nat.gcd num.natAbs dn = G
      have HGG := Lib.hid hgg
      clear hgg
      have hmag : num.natAbs < 18446744073709551616 := by omega
      have dg : ((G : Int) == 1) = decide (G = 1) := by
        by_cases hG : G = 1 <;> simp [hG] <;> omega
      refine rgn (Cls w1) (by kernel_rfl) (by kernel_rfl) Cls.refl ?_
      repeat (first | (refine qU rfl ?_; simp only [Act.put, List.setIfInBounds_toArray, List.set_cons_zero, List.set_cons_succ]) | (refine qW ?_ rfl rfl (fun w hC K hK => ?_) ?_; rotate_left; (focus ((go_wp2_with fail) <;> exact hK _ hC)); simp only [Act.put, List.setIfInBounds_toArray, List.set_cons_zero, List.set_cons_succ]))
      refine qC (fun w hC => Calls.cls_same hC (mag_any w num hn)) rfl (fun w => ?_) ?_
      · go_simp; try rfl
      simp only [Act.put, List.setIfInBounds_toArray, List.set_cons_zero, List.set_cons_succ]
      repeat (first | (refine qU rfl ?_; simp only [Act.put, List.setIfInBounds_toArray, List.set_cons_zero, List.set_cons_succ]) | (refine qW ?_ rfl rfl (fun w hC K hK => ?_) ?_; rotate_left; (focus ((go_wp2_with fail) <;> exact hK _ hC)); simp only [Act.put, List.setIfInBounds_toArray, List.set_cons_zero, List.set_cons_succ]))
      refine qC (fun w hC => Calls.cls hC (HGG.out ▸ gcd_any w num.natAbs dn hmag (by omega))) rfl (fun w => ?_) ?_
      · go_simp; try rfl
      simp only [Act.put, List.setIfInBounds_toArray, List.set_cons_zero, List.set_cons_succ]
      repeat (first | (refine qU rfl ?_; simp only [Act.put, List.setIfInBounds_toArray, List.set_cons_zero, List.set_cons_succ]) | (refine qW ?_ rfl rfl (fun w hC K hK => ?_) ?_; rotate_left; (focus ((go_wp2_with fail) <;> exact hK _ hC)); simp only [Act.put, List.setIfInBounds_toArray, List.set_cons_zero, List.set_cons_succ]))
      refine qN ?_
      intro w' hw'
      go_wp2_with fail
      go_ret
      refine ⟨congrArg Ending.returned (congrArg Value.bool ?_), o1.then hw'.only⟩
      rw [HR.out, HG.out]
      have hgg := HGG.out
      simp [h1, h2, hgg]
    · obtain rfl : num = -9223372036854775808 := by omega
      clear h2 hn hn' hd hd' c0 c1 h1
      refine rgn (Cls w1) (by kernel_rfl) (by kernel_rfl) Cls.refl ?_
      repeat (first | (refine qU rfl ?_; simp only [Act.put, List.setIfInBounds_toArray, List.set_cons_zero, List.set_cons_succ]) | (refine qW ?_ rfl rfl (fun w hC K hK => ?_) ?_; rotate_left; (focus ((go_wp2_with fail) <;> exact hK _ hC)); simp only [Act.put, List.setIfInBounds_toArray, List.set_cons_zero, List.set_cons_succ]))
      refine qN ?_
      intro w' hw'
      go_wp2_with fail
      go_ret
      exact ⟨congrArg Ending.returned (congrArg Value.bool (by rw [HR.out]; exact (decide_eq_false (fun h => absurd h.2.1 (by omega))).symm)), o1.then hw'.only⟩
  · have d1 : decide (1 ≤ den) = false := by simpa using h1
    have h1' : den < 1 := by omega
    clear h1 hn hd hn' hd' c0 c1
    refine rgn (Cls w1) (by kernel_rfl) (by kernel_rfl) Cls.refl ?_
    repeat (first | (refine qU rfl ?_; simp only [Act.put, List.setIfInBounds_toArray, List.set_cons_zero, List.set_cons_succ]) | (refine qW ?_ rfl rfl (fun w hC K hK => ?_) ?_; rotate_left; (focus ((go_wp2_with fail) <;> exact hK _ hC)); simp only [Act.put, List.setIfInBounds_toArray, List.set_cons_zero, List.set_cons_succ]))
    refine qN ?_
    intro w' hw'
    go_wp2_with fail
    go_ret
    exact ⟨congrArg Ending.returned (congrArg Value.bool (by rw [HR.out]; exact (decide_eq_false (fun h => absurd h.1 (by omega))).symm)), o1.then hw'.only⟩
end Go.Proofs.Ytmghfhjiodeaeaa
