/- TransformClamped: the walk. -/
import Derived.Test.YtkpmndpocojnkaaT6
namespace Go.Proofs.Ytkpmndpocojnkaa.transformClamped
open Go.RowKit

theorem inv_cl (x : Nat → Int) (n : Nat) : inv x n = inv (fun n => cl (x n)) n := by
  unfold inv sumI rowI
  simp only [cl_cl]
theorem walk (w : World) (A : Option Addr) (c : Nat) (l : List Int) (hr : Reads w A 1 l.length (l.map (Value.int .i64))) (hm : l.length ≤ maxLen) (hb : ∀ z ∈ l, -9223372036854775808 ≤ z ∧ z ≤ 9223372036854775807) :
    Calls Try.prog 9 #[.slice A l.length c] w fun e w' => e = .returned (.bool true) ∧ Only [] w w' := by
  have hI := blockOf_I64 hb
  generalize hx : blockOf l = x at hI
  have HX := Lib.hid hx
  clear hx
  have hI2 : I64 64 (fun n => cl (x n)) := fun n _ => by have := cl_bd (x n); simp only; omega
  have heq : ∀ w, (binOp .eql 23 (.agg (arr .i64 64 (inv x))) (.agg (arr .i64 64 (inv fun n => cl (x n))))).run Try.prog w = .ok (.bool true) w := fun w => by have := eql64 (inv x) (inv fun n => cl (x n)) w; rw [eqTo_of (fun j _ => inv_cl x j)] at this; exact this
  go_enter Try.func9, Try.ntmps9
  go_wp2_with fail
  refine (block_any _ A c l hr hm).mono ?_
  rintro e w1 ⟨rfl, o1⟩
  rw [HX.out]
  obtain ⟨n1, hb1⟩ := new_row w1 x
  have ho1 := o1.then n1
  obtain ⟨n2, hb2⟩ := new_row ((w1.alloc (Obj.cells (arr .i64 64 fun _ => 0) 23)).setRow w1.heap.size (arr .i64 64 x)) x
  have hb1' := hb1.only n2 (by simp)
  have ho2 := ho1.then n2
  have hs2 : ((w1.alloc (Obj.cells (arr .i64 64 fun _ => 0) 23)).setRow w1.heap.size (arr .i64 64 x)).heap.size = w1.heap.size + 1 := by simp
  have hle : w.heap.size ≤ w1.heap.size + 1 := by have := o1.size; omega
  go_wp2_with (first | refine st64 (x := fun _ => 0) (g := w1.heap.size) (Blk.new _ _ _) rfl rfl rfl rfl ?_ | refine ld64 (x := x) (g := w1.heap.size) hb1 rfl rfl rfl ?_ | refine st64 (x := fun _ => 0) (g := w1.heap.size + 1) (by have := Blk.new ((w1.alloc (Obj.cells (arr .i64 64 fun _ => 0) 23)).setRow w1.heap.size (arr .i64 64 x)) 23 (arr .i64 64 fun _ => 0); rw [hs2] at this; exact this) rfl rfl rfl rfl ?_)
  rw [hs2] at hb2 hb1' ho2
  refine at_world (Φ := fun w3 => Only [] w w3 ∧ Blk w3 w1.heap.size 23 (arr .i64 64 x) ∧ Blk w3 (w1.heap.size + 1) 23 (arr .i64 64 (blend 0 (fun n => cl (x n)) x))) ⟨ho2, hb1', by rw [arr_blend_zero]; exact hb2⟩ ?_
  rintro w3 ⟨ho3, hbx, hby⟩
  have hlt12 : w1.heap.size < w1.heap.size + 1 := Nat.lt_succ_self _
  clear n1 n2 hb1 hb1' hb2 ho1 ho2 hs2 o1
  generalize w1.heap.size + 1 = g2 at hby hlt12 hle
  generalize w1.heap.size = g1 at hbx hlt12
  go_loopw [5] (fun i wr => ∃ k : Nat, k ≤ 64 ∧ i = .int .i64 k ∧ Only [] w wr ∧ Blk wr g1 23 (arr .i64 64 x) ∧ Blk wr g2 23 (arr .i64 64 (blend k (fun n => cl (x n)) x))) (fun i _ => 64 - (intOf i).toNat)
  case atStart => exact ⟨0, by omega, rfl, ho3, hbx, hby⟩
  case round =>
    obtain ⟨k, hk, rfl, ho, hx1, hy1⟩ := hrel
    by_cases hlt : k < 64
    · have hd : decide ((k : Int) < 64) = true := by simp; omega
      have c1 := hx1.cell k
      rw [arr_get hlt] at c1
      have c2 := hy1.cell k
      rw [arr_get hlt] at c2
      have hfz := hy1.frozen k
      have On := Lib.hid (ho.setCell (p := ⟨g2, k, none⟩) (.inr hle) (.int .i64 (cl (x k))))
      have Hx := Lib.hid (hx1.far (p := ⟨g2, k, none⟩) (by show g1 ≠ g2; omega) (.int .i64 (cl (x k))))
      have Hb := Lib.hid (show Blk (wr.setCell ⟨g2, k, none⟩ (.int .i64 (cl (x k)))) g2 23 (arr .i64 64 (blend (k + 1) (fun n => cl (x n)) x)) from by have := hy1.set_ k (.int .i64 (cl (x k))); rwa [arr_set_blend hlt rfl] at this)
      go_wp2_with fail
      refine (clamp_any _ _).mono ?_
      rintro e w9 ⟨rfl, rfl⟩
      go_wp2_with fail
      go_roundw
      case rel => exact ⟨k + 1, by omega, by go_num, On.out, Hx.out, Hb.out⟩
      case measure => simp [intOf]; omega
    · obtain rfl : k = 64 := by omega
      rw [arr_blend_all (by omega)] at hy1
      have BX0 := Lib.hid hx1.drew
      have BY0 := Lib.hid hy1.drew
      have HO0 := Lib.hid ho.drew
      have hi1 : (Try.prog.info? 23).map (·.size) = some (rowL .i64 64 x).length := by rw [rowL_length]; exact info_arr64
      have hi2 : (Try.prog.info? 23).map (·.size) = some (rowL .i64 64 (fun n => cl (x n))).length := by rw [rowL_length]; exact info_arr64
      clear hx1 hy1 ho hby hbx ho3
      go_wp2_with fail
      refine wp_region_held_drew (S := fun w' => w'.rangeAt g1 0 (rowL .i64 64 x) ∧ w'.rangeAt g2 0 (rowL .i64 64 (fun n => cl (x n)))) (by kernel_rfl) ⟨BX0.out.range, BY0.out.range⟩ (fun hHeld => ?_)
      refine wpAnyH_ready (rs := [0]) (by kernel_rfl) (by simp) ?_
      refine readyH rfl (fun K hK => ?_)
      rw [if_pos (by rfl)]
      go_wp2_with fail
      refine (awake_any _).mono ?_
      rintro e v1 ⟨rfl, q1⟩
      have BX1 := Lib.hid (BX0.out.only q1 (by simp))
      have BY1 := Lib.hid (BY0.out.only q1 (by simp))
      have HO1 := Lib.hid (HO0.out.then q1)
      go_wp2_with fail
      refine hK.out _ _ ⟨BX1.out.range, BY1.out.range⟩ (fun hHeld => ?_)
      clear hK K
      refine takeH (i := 1) (v := ?_) rfl (by kernel_rfl) (by kernel_rfl) (by kernel_rfl) (fun _ _ _ h => h) (Or.inl ⟨by rfl, ?_⟩) (by assumption) ?_
      rotate_left
      · intro w hSw; (try dsimp only at hSw); go_simp; try with_reducible rfl
      simp only [Act.put, List.setIfInBounds_toArray, List.set_cons_zero, List.set_cons_succ]
      refine takeH (i := 2) rfl (by kernel_rfl) (by kernel_rfl) (by kernel_rfl) (fun _ _ _ h => h) (yieldsIf_load_mid (by rfl) _ _ rfl _ _ rfl (rowL .i64 64 x) _ (fun _ h => h.1) Try.underlying23 rfl hi1) (by assumption) ?_
      simp only [Act.put, List.setIfInBounds_toArray, List.set_cons_zero, List.set_cons_succ]
      refine takeH (i := 4) rfl (by kernel_rfl) (by kernel_rfl) (by kernel_rfl) (fun _ _ _ h => h) (yieldsIf_load_mid (by rfl) _ _ rfl _ _ rfl (rowL .i64 64 (fun n => cl (x n))) _ (fun _ h => h.2) Try.underlying23 rfl hi2) (by assumption) ?_
      simp only [Act.put, List.setIfInBounds_toArray, List.set_cons_zero, List.set_cons_succ]
      refine wpAnyH_ready (rs := [3]) (by kernel_rfl) (by simp) ?_
      refine readyH rfl (fun K hK => ?_)
      rw [if_pos (by rfl)]
      go_wp2_with fail
      refine (inverse_any _ x hI).mono ?_
      rintro e v2 ⟨rfl, q2⟩
      have BX2 := Lib.hid (BX1.out.only q2 (by simp))
      have BY2 := Lib.hid (BY1.out.only q2 (by simp))
      have HO2 := Lib.hid (HO1.out.then q2)
      go_wp2_with fail
      refine hK.out _ _ ⟨BX2.out.range, BY2.out.range⟩ (fun hHeld => ?_)
      clear hK K
      refine wpAnyH_ready (rs := [5]) (by kernel_rfl) (by simp) ?_
      refine readyH rfl (fun K hK => ?_)
      rw [if_pos (by rfl)]
      go_wp2_with fail
      refine (inverse_any _ (fun n => cl (x n)) hI2).mono ?_
      rintro e v3 ⟨rfl, q3⟩
      have BX3 := Lib.hid (BX2.out.only q3 (by simp))
      have BY3 := Lib.hid (BY2.out.only q3 (by simp))
      have HO3 := Lib.hid (HO2.out.then q3)
      go_wp2_with fail
      refine hK.out _ _ ⟨BX3.out.range, BY3.out.range⟩ (fun hHeld => ?_)
      clear hK K
      refine takeH (i := 6) (v := ?_) rfl (by kernel_rfl) (by kernel_rfl) (by kernel_rfl) (fun _ _ _ h => h) (Or.inl ⟨by rfl, ?_⟩) (by assumption) ?_
      rotate_left
      · intro w hSw; (try dsimp only at hSw); go_simp; try with_reducible rfl
      simp only [Act.put, List.setIfInBounds_toArray, List.set_cons_zero, List.set_cons_succ]
      refine takeH (i := 7) (v := ?_) rfl (by kernel_rfl) (by kernel_rfl) (by kernel_rfl) (fun _ _ _ h => h) (Or.inl ⟨by rfl, ?_⟩) (by assumption) ?_
      rotate_left
      · intro w hSw; (try dsimp only at hSw); go_simp; try with_reducible rfl
      simp only [Act.put, List.setIfInBounds_toArray, List.set_cons_zero, List.set_cons_succ]
      refine takeH (i := 8) (v := ?_) rfl (by kernel_rfl) (by kernel_rfl) (by kernel_rfl) (fun _ _ _ h => h) (Or.inl ⟨by rfl, ?_⟩) (by assumption) ?_
      rotate_left
      · intro w hSw; (try dsimp only at hSw); go_simp; try with_reducible rfl
      refine wpAnyH_done (by kernel_rfl) ?_ _
      go_wp2_with fail
      go_ret
      exact ⟨rfl, HO3.out⟩
end Go.Proofs.Ytkpmndpocojnkaa.transformClamped
