/- TransformLinear: the walk. -/
import Derived.Test.YtkpmndpocojnkaaT6
namespace Go.Proofs.Ytkpmndpocojnkaa.transformLinear
open Go.RowKit

set_option maxHeartbeats 1000000 in
theorem walk (w : World) (A : Option Addr) (c : Nat) (l : List Int) (hr : Reads w A 1 l.length (l.map (Value.int .i64))) (hm : l.length ≤ maxLen) (hb : ∀ z ∈ l, -9223372036854775808 ≤ z ∧ z ≤ 9223372036854775807)
    (A2 : Option Addr) (c2 : Nat) (l2 : List Int) (hr2 : Reads w A2 1 l2.length (l2.map (Value.int .i64))) (hm2 : l2.length ≤ maxLen) (hb2 : ∀ z ∈ l2, -9223372036854775808 ≤ z ∧ z ≤ 9223372036854775807) :
    Calls Try.prog 6 #[.slice A l.length c, .slice A2 l2.length c2] w fun e w' => e = .returned (.bool true) ∧ Only [] w w' := by
  have hI := blockOf_I64 hb
  have hJ := blockOf_I64 hb2
  generalize hx : blockOf l = x at hI
  have HX := Lib.hid hx
  generalize hz : blockOf l2 = z at hJ
  have HZ := Lib.hid hz
  clear hx hz
  go_enter Try.func6, Try.ntmps6
  go_wp2_with fail
  refine (block_any _ A c l hr hm).mono ?_
  rintro e w1 ⟨rfl, o1⟩
  rw [HX.out]
  go_wp2_with fail
  refine (block_any _ A2 c2 l2 (hr2.then o1) hm2).mono ?_
  rintro e w2 ⟨rfl, o2⟩
  rw [HZ.out]
  go_wp2_with (first | refine st64 (x := fun _ => 0) (g := w2.heap.size) ((Blk.new _ _ _).alloc _) rfl rfl rfl rfl ?_ | (refine st64 (x := fun _ => 0) (g := w2.heap.size + 1) (Blk.off_row (Blk.new2 w2 _ _ _) (Nat.ne_of_gt (Nat.lt_succ_self _)) _) rfl rfl rfl rfl (at_worldL (Φ := fun w3 => Only [] w2 w3 ∧ Blk w3 w2.heap.size 23 (arr .i64 64 x) ∧ Blk w3 (w2.heap.size + 1) 23 (arr .i64 64 z)) (two_rows w2 x z) ?_); rintro w3 ⟨o3, hx3, hz3⟩) | refine ld64 (x := x) (g := w2.heap.size) hx3 rfl rfl rfl ?_)
  refine (within_any _ x 127 hI (by omega)).mono ?_
  rintro e w4 ⟨rfl, o4⟩
  have hz4 := hz3.only o4 (by simp)
  cases hix : inside x 127 64 with
  | false =>
    clear hix
    go_wp2_with fail
    refine (awake_any _).mono ?_
    rintro e w6 ⟨rfl, o6⟩
    go_wp2_with fail
    go_ret
    exact ⟨rfl, (((o1.then o2).then o3).then o4).then o6⟩
  | true =>
    have Hix := Lib.hid hix
    clear hix
    go_wp2_with (refine gld64 (x := z) (g := w2.heap.size + 1) hz4 rfl rfl rfl ?_)
    refine (within_any _ z 127 hJ (by omega)).mono ?_
    rintro e w5 ⟨rfl, o5⟩
    cases hiz : inside z 127 64 with
    | false =>
      clear hiz
      go_wp2_with fail
      refine (awake_any _).mono ?_
      rintro e w6 ⟨rfl, o6⟩
      go_wp2_with fail
      go_ret
      exact ⟨rfl, ((((o1.then o2).then o3).then o4).then o5).then o6⟩
    | true =>
      have Hiz := Lib.hid hiz
      clear hiz
      go_wp2_with fail
      have ho5 := (((o1.then o2).then o3).then o4).then o5
      have hx5 := (hx3.only o4 (by simp)).only o5 (by simp)
      have hz5 := (hz3.only o4 (by simp)).only o5 (by simp)
      refine at_world (Φ := fun w6 => Only [] w w6 ∧ Blk w6 w2.heap.size 23 (arr .i64 64 x) ∧ Blk w6 (w2.heap.size + 1) 23 (arr .i64 64 z) ∧ Blk w6 w5.heap.size 23 (arr .i64 64 (upto 0 (fun n => x n + z n)))) ⟨ho5.alloc _, hx5.alloc _, hz5.alloc _, by rw [arr_upto_zero]; exact Blk.new _ _ _⟩ ?_
      rintro w6 ⟨ho6, hx6, hz6, hs6⟩
      have hl1 := hx5.lt
      have hl2 := hz5.lt
      have hle : w.heap.size ≤ w5.heap.size := ho5.size
      have BI := bd_of_inside Hix.out (by omega)
      have BZ := bd_of_inside Hiz.out (by omega)
      have IX := inside_255 Hix.out (by omega)
      have IZ := inside_255 Hiz.out (by omega)
      have IS : inside (fun n => x n + z n) 255 64 = true := inside_true.2 (fun j hj => by have h1 := inside_true.1 Hix.out j hj; have h2 := inside_true.1 Hiz.out j hj; omega)
      have hJS : I64 64 (fun n => x n + z n) := fun j hj => by have h1 := inside_true.1 Hix.out j hj; have h2 := inside_true.1 Hiz.out j hj; simp only; omega
      have BXZ : ∀ j, j < 64 → (-127 ≤ x j ∧ x j ≤ 127) ∧ (-127 ≤ z j ∧ z j ≤ 127) := fun j hj => ⟨inside_true.1 Hix.out j hj, inside_true.1 Hiz.out j hj⟩
      clear o1 o2 o3 o4 o5 hx3 hz3 hx5 hz5 ho5 hr hr2 hb hb2
      generalize w5.heap.size = gs at hs6 hl1 hl2 hle
      generalize w2.heap.size + 1 = gz at hz6 hl2
      generalize w2.heap.size = gx at hx6 hl1
      go_loopw [8] (fun i wr => ∃ k : Nat, k ≤ 64 ∧ i = .int .i64 k ∧ Only [] w wr ∧ Blk wr gx 23 (arr .i64 64 x) ∧ Blk wr gz 23 (arr .i64 64 z) ∧ Blk wr gs 23 (arr .i64 64 (upto k (fun n => x n + z n)))) (fun i _ => 64 - (intOf i).toNat)
      case atStart => exact ⟨0, by omega, rfl, ho6, hx6, hz6, hs6⟩
      case round =>
        obtain ⟨k, hk, rfl, ho, hx1, hz1, hs1⟩ := hrel
        by_cases hlt : k < 64
        · have hd : decide ((k : Int) < 64) = true := by simp; omega
          have bk := BXZ k hlt
          have c1 := hx1.cell k
          rw [arr_get hlt] at c1
          have c2 := hz1.cell k
          rw [arr_get hlt] at c2
          have c3 := hs1.cell k
          rw [arr_get hlt] at c3
          have hfz := hs1.frozen k
          have On := Lib.hid (ho.setCell (p := ⟨gs, k, none⟩) (.inr hle) (.int .i64 (x k + z k)))
          have Hx := Lib.hid (hx1.far (p := ⟨gs, k, none⟩) (by show gx ≠ gs; omega) (.int .i64 (x k + z k)))
          have Hz := Lib.hid (hz1.far (p := ⟨gs, k, none⟩) (by show gz ≠ gs; omega) (.int .i64 (x k + z k)))
          have Hs := Lib.hid (show Blk (wr.setCell ⟨gs, k, none⟩ (.int .i64 (x k + z k))) gs 23 (arr .i64 64 (upto (k + 1) (fun n => x n + z n))) from by have := hs1.set_ k (.int .i64 (x k + z k)); rwa [arr_set_upto hlt rfl] at this)
          go_wp2_with fail
          go_region
          all_goals go_wp2_with fail
          exact ⟨⟨k + 1, by omega, by go_num, On.out.drew, Hx.out.drew, Hz.out.drew, Hs.out.drew⟩, by simp [intOf]; omega⟩
        · obtain rfl : k = 64 := by omega
          rw [arr_upto_all (by omega)] at hs1
          clear ho6 hx6 hz6 hs6
          go_wp2_with (refine ld64 (x := x) (g := gx) hx1 rfl rfl rfl ?_)
          refine (forward_in _ x hI IX).mono ?_
          rintro e v1 ⟨rfl, q1⟩
          obtain ⟨n1, ha1⟩ := new_row v1 (fw x)
          have hz2 := (hz1.only q1 (by simp)).only n1 (by simp)
          have hs2 := (hs1.only q1 (by simp)).only n1 (by simp)
          have ho2 := (ho.then q1).then n1
          clear hx1 hz1 hs1 ho q1
          go_wp2_with (first | refine st64 (x := fun _ => 0) (g := v1.heap.size) (Blk.new _ _ _) rfl rfl rfl rfl ?_ | refine ld64 (x := z) (g := gz) hz2 rfl rfl rfl ?_)
          refine (forward_in _ z hJ IZ).mono ?_
          rintro e v2 ⟨rfl, q2⟩
          obtain ⟨n2, hb2⟩ := new_row v2 (fw z)
          have hs3 := (hs2.only q2 (by simp)).only n2 (by simp)
          have ha3 := (ha1.only q2 (by simp)).only n2 (by simp)
          have ho3 := (ho2.then q2).then n2
          clear hz2 hs2 ha1 ho2 q2 n1
          generalize v1.heap.size = ga at ha3
          go_wp2_with (first | refine st64 (x := fun _ => 0) (g := v2.heap.size) (Blk.new _ _ _) rfl rfl rfl rfl ?_ | refine ld64 (x := fun n => x n + z n) (g := gs) hs3 rfl rfl rfl ?_)
          refine (forward_in _ (fun n => x n + z n) hJS IS).mono ?_
          rintro e v3 ⟨rfl, q3⟩
          obtain ⟨n3, hc4⟩ := new_row v3 (fw fun n => x n + z n)
          have ha4 := (ha3.only q3 (by simp)).only n3 (by simp)
          have hb4 := (hb2.only q3 (by simp)).only n3 (by simp)
          have ho4 := (ho3.then q3).then n3
          clear hs3 ha3 hb2 ho3 q3 n2
          generalize v2.heap.size = gb at hb4
          go_wp2_with (refine st64 (x := fun _ => 0) (g := v3.heap.size) (Blk.new _ _ _) rfl rfl rfl rfl ?_)
          refine at_world (Φ := fun w7 => Only [] w w7 ∧ Blk w7 ga 23 (arr .i64 64 (fw x)) ∧ Blk w7 gb 23 (arr .i64 64 (fw z)) ∧ Blk w7 v3.heap.size 23 (arr .i64 64 (fw fun n => x n + z n))) ⟨ho4, ha4, hb4, hc4⟩ ?_
          rintro w7 ⟨ho7, ha7, hb7, hc7⟩
          clear ho4 ha4 hb4 hc4 n3
          generalize v3.heap.size = gc at hc7
          go_loopw [15] (fun i wr => ∃ k : Nat, k ≤ 64 ∧ i = .int .i64 k ∧ Only [] w7 wr) (fun i _ => 64 - (intOf i).toNat)
          case atStart => exact ⟨0, by omega, rfl, Only.refl _ _⟩
          case round =>
            obtain ⟨k, hk, rfl, ol⟩ := hrel
            by_cases hlt : k < 64
            · have hd : decide ((k : Int) < 64) = true := by simp; omega
              have c1 := (ha7.only ol (by simp)).cell k
              rw [arr_get hlt] at c1
              have c2 := (hb7.only ol (by simp)).cell k
              rw [arr_get hlt] at c2
              have c3 := (hc7.only ol (by simp)).cell k
              rw [arr_get hlt, fw_add] at c3
              have b1 := fw_bd BI (by omega) k hlt
              have b2 := fw_bd BZ (by omega) k hlt
              have hne : ((fw x k + fw z k) != (fw x k + fw z k)) = false := by simp
              go_wp2_with fail
              go_region
              all_goals go_wp2_with fail
              exact ⟨⟨k + 1, by omega, by go_num, ol.drew⟩, by simp [intOf]; omega⟩
            · obtain rfl : k = 64 := by omega
              go_wp2_with (go_at_call 15; refine (awake_any _).mono ?_; rintro e v9 ⟨rfl, q9⟩)
              go_ret
              exact ⟨rfl, (ho7.then ol).then q9⟩
end Go.Proofs.Ytkpmndpocojnkaa.transformLinear
