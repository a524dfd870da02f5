/- TransformBack: the walk. -/
import Derived.Test.YtkpmndpocojnkaaT6
namespace Go.Proofs.Ytkpmndpocojnkaa.transformBack
open Go.RowKit

theorem walk (w : World) (A : Option Addr) (c : Nat) (l : List Int) (hr : Reads w A 1 l.length (l.map (Value.int .i64))) (hm : l.length ≤ maxLen) (hb : ∀ z ∈ l, -9223372036854775808 ≤ z ∧ z ≤ 9223372036854775807) :
    Calls Try.prog 5 #[.slice A l.length c] w fun e w' => e = .returned (.bool true) ∧ Only [] w w' := by
  have hI := blockOf_I64 hb
  generalize hx : blockOf l = x at hI
  have HX := Lib.hid hx
  clear hx
  go_enter Try.func5, Try.ntmps5
  go_wp2_with fail
  refine (block_any _ A c l hr hm).mono ?_
  rintro e w1 ⟨rfl, o1⟩
  rw [HX.out]
  obtain ⟨n1, hb1⟩ := new_row w1 x
  have ho1 := o1.then n1
  go_wp2_with (first | refine st64 (x := fun _ => 0) (g := w1.heap.size) (Blk.new _ _ _) rfl rfl rfl rfl ?_ | refine ld64 (x := x) (g := w1.heap.size) hb1 rfl rfl rfl ?_)
  clear n1 o1
  cases hin : inside x 255 64 with
  | false =>
    refine (forward_out _ x hI hin).mono ?_
    rintro e w2 ⟨rfl, o2⟩
    obtain ⟨n2, hb2⟩ := new_row w2 (fun _ => 0)
    have hb1' := (hb1.only o2 (by simp)).only n2 (by simp)
    have ho2 := (ho1.then o2).then n2
    generalize w1.heap.size = g1 at hb1'
    have Hin := Lib.hid hin
    clear hin hb1 ho1 n2 o2 hb2
    go_wp2_with (first | refine st64 (x := fun _ => 0) (g := w2.heap.size) (Blk.new _ _ _) rfl rfl rfl rfl ?_ | refine ld64 (x := x) (g := g1) hb1' rfl rfl rfl ?_ | (go_at_call 18; refine (within_any _ x 255 hI (by omega)).mono ?_; rintro e w3 ⟨rfl, o3⟩; rw [Hin.out]) | (go_at_call 15; refine (awake_any _).mono ?_; rintro e w4 ⟨rfl, o4⟩))
    go_ret
    exact ⟨rfl, (ho2.then o3).then o4⟩
  | true =>
    have hB : Bd x 255 := inside_true.1 hin
    have hI2 := fw_I64 hB
    have hw2 : inside (fw x) 1044480 64 = true := inside_true.2 (fun j hj => by have := fw_bd hB (by omega) j hj; omega)
    have heq : ∀ w, (binOp .eql 23 (.agg (arr .i64 64 (inv (fw x)))) (.agg (rowL .i64 64 x).toArray)).run Try.prog w = .ok (.bool true) w := fun w => by have := eql64 (inv (fw x)) x w; rw [eqTo_of (fun j hj => back hB j hj)] at this; exact this
    refine (forward_in _ x hI hin).mono ?_
    rintro e w2 ⟨rfl, o2⟩
    obtain ⟨n2, hb2⟩ := new_row w2 (fw x)
    have hb1' := (hb1.only o2 (by simp)).only n2 (by simp)
    have ho2 := (ho1.then o2).then n2
    generalize w1.heap.size = g1 at hb1'
    have Hin := Lib.hid hin
    have Hw2 := Lib.hid hw2
    clear hin hb1 ho1 n2 o2 hB hw2
    go_wp2_with (first | refine st64 (x := fun _ => 0) (g := w2.heap.size) (Blk.new _ _ _) rfl rfl rfl rfl ?_ | refine ld64 (x := x) (g := g1) hb1' rfl rfl rfl ?_ | (go_at_call 18; refine (within_any _ x 255 hI (by omega)).mono ?_; rintro e w3 ⟨rfl, o3⟩; rw [Hin.out]))
    have BX0 := Lib.hid ((hb1'.only o3 (by simp)).drew)
    have BY0 := Lib.hid ((hb2.only o3 (by simp)).drew)
    have HO0 := Lib.hid ((ho2.then o3).drew)
    generalize w2.heap.size = g2 at BY0
    have hi1 : (Try.prog.info? 23).map (·.size) = some (rowL .i64 64 x).length := by rw [rowL_length]; exact info_arr64
    have hi2 : (Try.prog.info? 23).map (·.size) = some (rowL .i64 64 (fw x)).length := by rw [rowL_length]; exact info_arr64
    clear hb1' hb2 ho2 o3
    refine wp_region_held_drew (S := fun w' => w'.rangeAt g1 0 (rowL .i64 64 x) ∧ w'.rangeAt g2 0 (rowL .i64 64 (fw x))) (by kernel_rfl) ⟨BX0.out.range, BY0.out.range⟩ (fun hHeld => ?_)
    refine wpAnyH_ready (rs := [0]) (by kernel_rfl) (by simp) ?_
    refine readyH rfl (fun K hK => ?_)
    rw [if_pos (by rfl)]
    go_wp2_with fail
    refine (awake_any _).mono ?_
    rintro e v1 ⟨rfl, q1⟩
    have BX1 := Lib.hid (BX0.out.only q1 (by simp))
    have BY1 := Lib.hid (BY0.out.only q1 (by simp))
    have HO1 := Lib.hid (HO0.out.then q1)
    go_wp2_with fail
    refine hK.out _ _ ⟨BX1.out.range, BY1.out.range⟩ (fun hHeld => ?_)
    clear hK K
    refine takeH (i := 1) (v := ?_) rfl (by kernel_rfl) (by kernel_rfl) (by kernel_rfl) (fun _ _ _ h => h) (Or.inl ⟨by rfl, ?_⟩) (by assumption) ?_
    rotate_left
    · intro w hSw; (try dsimp only at hSw); go_simp; try with_reducible rfl
    simp only [Act.put, List.setIfInBounds_toArray, List.set_cons_zero, List.set_cons_succ]
    refine takeH (i := 2) (v := ?_) rfl (by kernel_rfl) (by kernel_rfl) (by kernel_rfl) (fun _ _ _ h => h) (Or.inl ⟨by rfl, ?_⟩) (by assumption) ?_
    rotate_left
    · intro w hSw; (try dsimp only at hSw); go_simp; try with_reducible rfl
    simp only [Act.put, List.setIfInBounds_toArray, List.set_cons_zero, List.set_cons_succ]
    refine takeH (i := 3) (v := ?_) rfl (by kernel_rfl) (by kernel_rfl) (by kernel_rfl) (fun _ _ _ h => h) (Or.inl ⟨by rfl, ?_⟩) (by assumption) ?_
    rotate_left
    · intro w hSw; (try dsimp only at hSw); go_simp; try with_reducible rfl
    simp only [Act.put, List.setIfInBounds_toArray, List.set_cons_zero, List.set_cons_succ]
    refine takeH (i := 4) (v := ?_) rfl (by kernel_rfl) (by kernel_rfl) (by kernel_rfl) (fun _ _ _ h => h) (Or.inl ⟨by rfl, ?_⟩) (by assumption) ?_
    rotate_left
    · intro w hSw; (try dsimp only at hSw); go_simp; try with_reducible rfl
    simp only [Act.put, List.setIfInBounds_toArray, List.set_cons_zero, List.set_cons_succ]
    refine takeH (i := 5) (v := ?_) rfl (by kernel_rfl) (by kernel_rfl) (by kernel_rfl) (fun _ _ _ h => h) (Or.inl ⟨by rfl, ?_⟩) (by assumption) ?_
    rotate_left
    · intro w hSw; (try dsimp only at hSw); go_simp; try with_reducible rfl
    simp only [Act.put, List.setIfInBounds_toArray, List.set_cons_zero, List.set_cons_succ]
    refine takeH (i := 6) rfl (by kernel_rfl) (by kernel_rfl) (by kernel_rfl) (fun _ _ _ h => h) (yieldsIf_load_mid (by rfl) _ _ rfl _ _ rfl (rowL .i64 64 (fw x)) _ (fun _ h => h.2) Try.underlying23 rfl hi2) (by assumption) ?_
    simp only [Act.put, List.setIfInBounds_toArray, List.set_cons_zero, List.set_cons_succ]
    refine wpAnyH_ready (rs := [7]) (by kernel_rfl) (by simp) ?_
    refine readyH rfl (fun K hK => ?_)
    rw [if_pos (by rfl)]
    go_wp2_with fail
    refine (within_any _ (fw x) 1044480 hI2 (by omega)).mono ?_
    rintro e v2 ⟨rfl, q2⟩
    rw [Hw2.out]
    have BX2 := Lib.hid (BX1.out.only q2 (by simp))
    have BY2 := Lib.hid (BY1.out.only q2 (by simp))
    have HO2 := Lib.hid (HO1.out.then q2)
    go_wp2_with fail
    refine hK.out _ _ ⟨BX2.out.range, BY2.out.range⟩ (fun hHeld => ?_)
    clear hK K
    refine takeH (i := 8) (v := ?_) rfl (by kernel_rfl) (by kernel_rfl) (by kernel_rfl) (fun _ _ _ h => h) (Or.inl ⟨by rfl, ?_⟩) (by assumption) ?_
    rotate_left
    · intro w hSw; (try dsimp only at hSw); go_simp; try with_reducible rfl
    simp only [Act.put, List.setIfInBounds_toArray, List.set_cons_zero, List.set_cons_succ]
    refine takeH (i := 9) (v := ?_) rfl (by kernel_rfl) (by kernel_rfl) (by kernel_rfl) (fun _ _ _ h => h) (Or.inl ⟨by rfl, ?_⟩) (by assumption) ?_
    rotate_left
    · intro w hSw; (try dsimp only at hSw); go_simp; try with_reducible rfl
    simp only [Act.put, List.setIfInBounds_toArray, List.set_cons_zero, List.set_cons_succ]
    refine takeH (i := 10) rfl (by kernel_rfl) (by kernel_rfl) (by kernel_rfl) (fun _ _ _ h => h) (yieldsIf_load_mid (by rfl) _ _ rfl _ _ rfl (rowL .i64 64 (fw x)) _ (fun _ h => h.2) Try.underlying23 rfl hi2) (by assumption) ?_
    simp only [Act.put, List.setIfInBounds_toArray, List.set_cons_zero, List.set_cons_succ]
    refine takeH (i := 12) rfl (by kernel_rfl) (by kernel_rfl) (by kernel_rfl) (fun _ _ _ h => h) (yieldsIf_load_mid (by rfl) _ _ rfl _ _ rfl (rowL .i64 64 x) _ (fun _ h => h.1) Try.underlying23 rfl hi1) (by assumption) ?_
    simp only [Act.put, List.setIfInBounds_toArray, List.set_cons_zero, List.set_cons_succ]
    refine wpAnyH_ready (rs := [11]) (by kernel_rfl) (by simp) ?_
    refine readyH rfl (fun K hK => ?_)
    rw [if_pos (by rfl)]
    go_wp2_with fail
    refine (inverse_any _ (fw x) hI2).mono ?_
    rintro e v3 ⟨rfl, q3⟩
    have BX3 := Lib.hid (BX2.out.only q3 (by simp))
    have BY3 := Lib.hid (BY2.out.only q3 (by simp))
    have HO3 := Lib.hid (HO2.out.then q3)
    go_wp2_with fail
    refine hK.out _ _ ⟨BX3.out.range, BY3.out.range⟩ (fun hHeld => ?_)
    clear hK K
    refine takeH (i := 13) (v := ?_) rfl (by kernel_rfl) (by kernel_rfl) (by kernel_rfl) (fun _ _ _ h => h) (Or.inl ⟨by rfl, ?_⟩) (by assumption) ?_
    rotate_left
    · intro w hSw; (try dsimp only at hSw); go_simp; try with_reducible rfl
    simp only [Act.put, List.setIfInBounds_toArray, List.set_cons_zero, List.set_cons_succ]
    refine takeH (i := 14) (v := ?_) rfl (by kernel_rfl) (by kernel_rfl) (by kernel_rfl) (fun _ _ _ h => h) (Or.inl ⟨by rfl, ?_⟩) (by assumption) ?_
    rotate_left
    · intro w hSw; (try dsimp only at hSw); go_simp; try with_reducible rfl
    simp only [Act.put, List.setIfInBounds_toArray, List.set_cons_zero, List.set_cons_succ]
    refine takeH (i := 15) (v := ?_) rfl (by kernel_rfl) (by kernel_rfl) (by kernel_rfl) (fun _ _ _ h => h) (Or.inl ⟨by rfl, ?_⟩) (by assumption) ?_
    rotate_left
    · intro w hSw; (try dsimp only at hSw); go_simp; try with_reducible rfl
    refine wpAnyH_done (by kernel_rfl) ?_ _
    go_wp2_with fail
    go_ret
    exact ⟨rfl, HO3.out⟩
end Go.Proofs.Ytkpmndpocojnkaa.transformBack
