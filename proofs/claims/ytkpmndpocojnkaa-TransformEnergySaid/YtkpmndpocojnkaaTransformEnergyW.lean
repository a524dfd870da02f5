/- TransformEnergy: the walk. -/
import Derived.Test.YtkpmndpocojnkaaT6
import Derived.Test.YtkpmndpocojnkaaReg
namespace Go.Proofs.Ytkpmndpocojnkaa.transformEnergy
open Go.RowKit

/-- One summand of the weighted energy. -/
def ws (y : Nat → Int) (n : Nat) : Int := y n * y n * Mm (n / 8) * Mm (n % 8)
theorem energy (x : Nat → Int) : sumTo (ws (fw x)) 64 = sumTo (fun n => x n * x n) 64 * 739840 * 739840 := by
  rw [sum64, sum64]
  have e1 : ∀ i, i < 8 → sumTo (fun j => ws (fw x) (8 * i + j)) 8 = sumTo (fun j => Mm j * (Mm i * (sumTo (fun k => T i k * rowF x (8 * k + j)) 8 * sumTo (fun k => T i k * rowF x (8 * k + j)) 8))) 8 := by
    intro i _
    apply sumTo_congr
    intro j hj
    unfold ws
    rw [fw_at x i j hj, show (8 * i + j) / 8 = i by omega, show (8 * i + j) % 8 = j by omega, Int.mul_comm _ (Mm i), Int.mul_comm _ (Mm j)]
  rw [sumTo_congr 8 e1, sumTo_swap]
  have e2 : ∀ j, j < 8 → sumTo (fun i => Mm j * (Mm i * (sumTo (fun k => T i k * rowF x (8 * k + j)) 8 * sumTo (fun k => T i k * rowF x (8 * k + j)) 8))) 8 = sumTo (fun k => 739840 * (Mm j * (rowF x (8 * k + j) * rowF x (8 * k + j)))) 8 := by
    intro j _
    rw [sumTo_mul, energy1 (fun k => rowF x (8 * k + j)), ← Int.mul_assoc, Int.mul_comm (Mm j), Int.mul_assoc, ← sumTo_mul, ← sumTo_mul]
  rw [sumTo_congr 8 e2, sumTo_swap]
  have e3 : ∀ k, k < 8 → sumTo (fun j => 739840 * (Mm j * (rowF x (8 * k + j) * rowF x (8 * k + j)))) 8 = 739840 * (739840 * sumTo (fun l => x (8 * k + l) * x (8 * k + l)) 8) := by
    intro k _
    rw [sumTo_mul]
    have e4 : ∀ j, j < 8 → Mm j * (rowF x (8 * k + j) * rowF x (8 * k + j)) = Mm j * (sumTo (fun l => T j l * x (8 * k + l)) 8 * sumTo (fun l => T j l * x (8 * k + l)) 8) := fun j hj => by rw [rowF_at x k j hj]
    rw [sumTo_congr 8 e4, energy1 (fun l => x (8 * k + l))]
  rw [sumTo_congr 8 e3, sumTo_mul, sumTo_mul]
  omega
theorem M_bd {i : Nat} (hi : i < 8) : 0 ≤ Mm i ∧ Mm i ≤ 2312 := by
  have := quoM ⟨i, hi⟩
  exact ⟨this.2.2.2.1, this.2.2.2.2⟩

set_option maxHeartbeats 1000000 in
theorem walk (w : World) (A : Option Addr) (c : Nat) (l : List Int) (hr : Reads w A 1 l.length (l.map (Value.int .i64))) (hm : l.length ≤ maxLen) (hb : ∀ z ∈ l, -9223372036854775808 ≤ z ∧ z ≤ 9223372036854775807) :
    Calls Try.prog 8 #[.slice A l.length c] w fun e w' => e = .returned (.bool true) ∧ Only [] w w' := by
  have hI := blockOf_I64 hb
  generalize hx : blockOf l = x at hI
  have HX := Lib.hid hx
  clear hx
  go_enter Try.func8, Try.ntmps8
  go_wp2_with fail
  refine (block_any _ A c l hr hm).mono ?_
  rintro e w1 ⟨rfl, o1⟩
  rw [HX.out]
  obtain ⟨n1, hb1⟩ := new_row w1 x
  have ho1 := o1.then n1
  go_wp2_with (first | refine st64 (x := fun _ => 0) (g := w1.heap.size) (Blk.new _ _ _) rfl rfl rfl rfl ?_ | refine ld64 (x := x) (g := w1.heap.size) hb1 rfl rfl rfl ?_)
  refine (within_any _ x 15 hI (by omega)).mono ?_
  rintro e w2 ⟨rfl, o2⟩
  have hb2 := hb1.only o2 (by simp)
  have ho2 := ho1.then o2
  clear hb1 ho1 n1 o1 o2
  generalize w1.heap.size = g1 at hb2
  cases hin : inside x 15 64 with
  | false =>
    clear hin
    go_wp2_with fail
    refine (awake_any _).mono ?_
    rintro e w6 ⟨rfl, o6⟩
    go_wp2_with fail
    go_ret
    exact ⟨rfl, ho2.then o6⟩
  | true =>
    have hB15 : Bd x 15 := inside_true.1 hin
    have hB := bd_of_inside hin (by omega)
    have IX := inside_255 hin (by omega)
    clear hin
    go_wp2_with (refine ld64 (x := x) (g := g1) hb2 rfl rfl rfl ?_)
    refine (forward_in _ x hI IX).mono ?_
    rintro e w3 ⟨rfl, o3⟩
    obtain ⟨n3, hy3⟩ := new_row w3 (fw x)
    have hx3 := (hb2.only o3 (by simp)).only n3 (by simp)
    have ho3 := (ho2.then o3).then n3
    clear hb2 ho2 o3 n3
    go_wp2_with (refine st64 (x := fun _ => 0) (g := w3.heap.size) (Blk.new _ _ _) rfl rfl rfl rfl ?_)
    refine at_world (Φ := fun w4 => Only [] w w4 ∧ Blk w4 g1 23 (arr .i64 64 x) ∧ Blk w4 w3.heap.size 23 (arr .i64 64 (fw x))) ⟨ho3, hx3, hy3⟩ ?_
    rintro w4 ⟨ho4, hx4, hy4⟩
    clear ho3 hx3 hy3
    generalize w3.heap.size = g2 at hy4
    have hY := fw_bd hB15 (by omega)
    have HE := Lib.hid (energy x)
    generalize fw x = y at hy4 hY HE
    go_loopw [6, 7, 8] (fun a b i wr => ∃ k : Nat, k ≤ 64 ∧ i = .int .i64 k ∧ a = .int .i64 (sumTo (fun n => x n * x n) k) ∧ b = .int .i64 (sumTo (ws y) k) ∧ Only [] w4 wr) (fun _ _ i _ => 64 - (intOf i).toNat)
    case atStart => exact ⟨0, by omega, rfl, rfl, rfl, Only.refl _ _⟩
    case round =>
      obtain ⟨k, hk, rfl, rfl, rfl, ol⟩ := hrel
      by_cases hlt : k < 64
      · have hd : decide ((k : Int) < 64) = true := by simp; omega
        have c1 := (hx4.only ol (by simp)).cell k
        rw [arr_get hlt] at c1
        have c2 := (hy4.only ol (by simp)).cell k
        rw [arr_get hlt] at c2
        have HY := Lib.hid (hy4.only ol (by simp))
        have p1 := mul_bd (hB15 k hlt) (hB15 k hlt)
        have s1 := sumTo_bd (f := fun n => x n * x n) (B := 15 * 15) k (fun j hj => mul_bd (hB15 j (by omega)) (hB15 j (by omega)))
        have Ha := Lib.hid (show sumTo (fun n => x n * x n) (k + 1) = sumTo (fun n => x n * x n) k + x k * x k from rfl)
        have Hb := Lib.hid (show sumTo (ws y) (k + 1) = sumTo (ws y) k + ws y k from rfl)
        have p2 := mul_bd (hY k hlt) (hY k hlt)
        have m1 := M_bd (i := k / 8) (by omega)
        have m2 := M_bd (i := k % 8) (by omega)
        have p3 := mul_bd p2 (A := 4096 * 15 * (4096 * 15)) (B := 2312) (b := Mm (k / 8)) (by omega)
        have p4 := mul_bd p3 (B := 2312) (b := Mm (k % 8)) (by omega)
        have s2 := sumTo_bd (f := ws y) (B := 4096 * 15 * (4096 * 15) * 2312 * 2312) k (fun j hj => by
          have q2 := mul_bd (hY j (by omega)) (hY j (by omega))
          have r1 := M_bd (i := j / 8) (by omega)
          have r2 := M_bd (i := j % 8) (by omega)
          have q3 := mul_bd q2 (A := 4096 * 15 * (4096 * 15)) (B := 2312) (b := Mm (j / 8)) (by omega)
          exact mul_bd q3 (B := 2312) (b := Mm (j % 8)) (by omega))
        generalize sumTo (fun n => x n * x n) k = S1 at s1 Ha
        generalize sumTo (ws y) k = S2 at s2 Hb
        -- RGN
        have f1 : ∀ w', Cls wr w' → w'.cell? ⟨g1, k, none⟩ = some (.int .i64 (x k)) := fun w' h => h.cell c1
        have f2 : ∀ w', Cls wr w' → w'.cell? ⟨g2, k, none⟩ = some (.int .i64 (y k)) := fun w' h => h.cell c2
        obtain ⟨q1, q2, q3, _, _⟩ := quoM ⟨k / 8, by omega⟩
        obtain ⟨r1, r2, r3, _, _⟩ := quoM ⟨k % 8, by omega⟩
        simp only at q1 q2 q3 r1 r2 r3
        have z1 : (Nm (k / 8) == 0) = false := by simp; omega
        have z2 : (Nm (k % 8) == 0) = false := by simp; omega
        have y1 : ¬ Nm (k / 8) = 0 := by omega
        have y2 : ¬ Nm (k % 8) = 0 := by omega
        go_wp2_with fail
        refine rgn (Cls wr) (by kernel_rfl) (by kernel_rfl) Cls.refl ?_
        repeat (first | (refine qU rfl ?_; simp only [Act.put, List.setIfInBounds_toArray, List.set_cons_zero, List.set_cons_succ]) | (refine qW ?_ rfl rfl (fun w hC K hK => ?_) ?_; rotate_left; (focus ((go_wp2_with fail) <;> exact hK _ hC)); simp only [Act.put, List.setIfInBounds_toArray, List.set_cons_zero, List.set_cons_succ]))
        refine qN ?_
        intro w' hw'
        go_wp2_with fail
        have g2' : ∀ w'', Cls w' w'' → w''.cell? ⟨g2, k, none⟩ = some (.int .i64 (y k)) := fun w'' h => h.cell (f2 w' hw')
        refine rgn (Cls w') (by kernel_rfl) (by kernel_rfl) Cls.refl ?_
        repeat (first | (refine qU rfl ?_; simp only [Act.put, List.setIfInBounds_toArray, List.set_cons_zero, List.set_cons_succ]) | (refine qW ?_ rfl rfl (fun w hC K hK => ?_) ?_; rotate_left; (focus ((go_wp2_with fail) <;> exact hK _ hC)); simp only [Act.put, List.setIfInBounds_toArray, List.set_cons_zero, List.set_cons_succ]))
        refine qC (fun w hC => Calls.cls hC (refNorm_in w (k / 8) (by omega))) rfl (fun w => ?_) ?_
        · go_simp; try rfl
        simp only [Act.put, List.setIfInBounds_toArray, List.set_cons_zero, List.set_cons_succ]
        repeat (first | (refine qU rfl ?_; simp only [Act.put, List.setIfInBounds_toArray, List.set_cons_zero, List.set_cons_succ]) | (refine qW ?_ rfl rfl (fun w hC K hK => ?_) ?_; rotate_left; (focus ((go_wp2_with fail) <;> exact hK _ hC)); simp only [Act.put, List.setIfInBounds_toArray, List.set_cons_zero, List.set_cons_succ]))
        refine qC (fun w hC => Calls.cls hC (refNorm_in _ (k % 8) (by omega))) rfl (fun w => ?_) ?_
        · go_simp; try rfl
        simp only [Act.put, List.setIfInBounds_toArray, List.set_cons_zero, List.set_cons_succ]
        repeat (first | (refine qU rfl ?_; simp only [Act.put, List.setIfInBounds_toArray, List.set_cons_zero, List.set_cons_succ]) | (refine qW ?_ rfl rfl (fun w hC K hK => ?_) ?_; rotate_left; (focus ((go_wp2_with fail) <;> exact hK _ hC)); simp only [Act.put, List.setIfInBounds_toArray, List.set_cons_zero, List.set_cons_succ]))
        refine qN ?_
        intro w'' hw''
        go_wp2_with fail
        exact ⟨⟨k + 1, by omega, by go_num, congrArg (Value.int IntKind.i64) Ha.out.symm, congrArg (Value.int IntKind.i64) Hb.out.symm, (ol.then hw'.only).then hw''.only⟩, by simp [intOf]; omega⟩
      · obtain rfl : k = 64 := by omega
        have s1 := sumTo_bd (f := fun n => x n * x n) (B := 15 * 15) 64 (fun j hj => mul_bd (hB15 j (by omega)) (hB15 j (by omega)))
        have he := HE.out
        generalize sumTo (ws y) 64 = S2 at he
        subst he
        clear HE
        generalize sumTo (fun n => x n * x n) 64 = S1 at s1
        go_wp2_with fail
        refine (awake_any _).mono ?_
        rintro e w6 ⟨rfl, o6⟩
        go_wp2_with fail
        go_ret
        exact ⟨rfl, (ho4.then ol).then o6⟩
end Go.Proofs.Ytkpmndpocojnkaa.transformEnergy
