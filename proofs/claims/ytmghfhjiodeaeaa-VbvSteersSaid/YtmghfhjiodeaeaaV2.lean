/- Sequence headers by value; the contracts of ValidSeq, in the program and in the reference. -/
import Derived.Test.YtmghfhjiodeaeaaV0
import Derived.Test.YtmghfhjiodeaeaaV1
namespace Go.Proofs.Ytmghfhjiodeaeaa
open Go.RowKit

/-- A sequence header. -/
structure Sq where
  W : Int
  H : Int
  num : Int
  den : Int
  il : Bool
  br : Int
  bf : Int
  a : Nat → Int
  b : Nat → Int
def sqH (s : Sq) : List Value := [.int .i64 s.W, .int .i64 s.H, .int .i64 s.num, .int .i64 s.den, .bool s.il, .int .i64 s.br, .int .i64 s.bf]
def sqL (s : Sq) : List Value := sqH s ++ (rowL .u8 64 s.a ++ rowL .u8 64 s.b)
def sqA (s : Sq) : Array Value := (sqL s).toArray
theorem sqA_size (s : Sq) : (sqA s).size = 135 := by simp [sqA, sqL, sqH, rowL_length]
theorem sqA_one (s : Sq) : (sqA s).all (·.oneCell') = true := by
  rw [Array.all_eq_true_iff_forall_mem]
  intro v hv
  simp [sqA, sqL, sqH, rowL] at hv
  rcases hv with rfl | rfl | rfl | rfl | rfl | rfl | rfl | ⟨_, _, rfl⟩ | ⟨_, _, rfl⟩ <;> rfl
/-- All of a header's numbers have their Go range. -/
structure SqI (s : Sq) : Prop where
  W : Big s.W
  H : Big s.H
  num : Big s.num
  den : Big s.den
  br : Big s.br
  bf : Big s.bf
section
variable {w : World} {g : Nat} {T : TypeId} {s : Sq}
theorem Blk.sq (h : Blk w g T (sqA s)) : w.cell? ⟨g, 0, none⟩ = some (.int .i64 s.W) ∧ w.cell? ⟨g, 1, none⟩ = some (.int .i64 s.H) ∧ w.cell? ⟨g, 2, none⟩ = some (.int .i64 s.num) ∧ w.cell? ⟨g, 3, none⟩ = some (.int .i64 s.den) ∧
    w.cell? ⟨g, 4, none⟩ = some (.bool s.il) ∧ w.cell? ⟨g, 5, none⟩ = some (.int .i64 s.br) ∧ w.cell? ⟨g, 6, none⟩ = some (.int .i64 s.bf) := by
  refine ⟨?_, ?_, ?_, ?_, ?_, ?_, ?_⟩ <;> rw [h.cell] <;> simp [sqA, sqL, sqH]
theorem Blk.sqRate (h : Blk w g T (sqA s)) : w.rangeAt g 2 [.int .i64 s.num, .int .i64 s.den] := by
  obtain ⟨_, _, h2, h3, _⟩ := h.sq
  intro j v hv
  match j, hv with
  | 0, hv => simp at hv; subst hv; exact h2
  | 1, hv => simp at hv; subst hv; exact h3
theorem Blk.sqIntra (h : Blk w g T (sqA s)) : w.rangeAt g 7 (rowL .u8 64 s.a) := by
  intro j v hv
  have hj : j < 64 := by
    have := (List.getElem?_eq_some_iff.1 hv).1
    rwa [rowL_length] at this
  rw [h.cell]
  simp only [sqA, List.getElem?_toArray, sqL]
  rw [List.getElem?_append_right (by simp [sqH]), List.getElem?_append_left (by rw [rowL_length]; simp [sqH]; omega)]
  simpa [sqH] using hv
theorem Blk.sqInter (h : Blk w g T (sqA s)) : w.rangeAt g 71 (rowL .u8 64 s.b) := by
  intro j v hv
  rw [h.cell]
  simp only [sqA, List.getElem?_toArray, sqL]
  rw [List.getElem?_append_right (by simp [sqH]; omega), List.getElem?_append_right (by rw [rowL_length]; simp [sqH]; omega), rowL_length]
  have e : 71 + j - (sqH s).length - 64 = j := by simp [sqH]; omega
  rw [e]; exact hv
end
theorem info_sq (s : Sq) : (Try.prog.info? 26).map (·.size) = some (sqA s).size := by rw [sqA_size]; kernel_rfl
section
variable {ops : Array Oper} {rest : List Oper} {o : Oper} {a : Act} {w : World} {Q : Exit → Act → World → Prop} {X Y : Operand} {g : Nat} {s : Sq}
theorem bxS (hgd : o.guard = none) (ho : o.op = .box 26 X) (hv : a.eval X = .agg (sqA s)) (k : ∀ g w', Blk w' g 26 (sqA s) → Only [] w w' → w.heap.size ≤ g → wpList Try.prog ops Q rest (a.put o.dst (.pointer (some ⟨g, 0, none⟩))) w') : wpList Try.prog ops Q (o :: rest) a w :=
  wbx _ _ hgd ho hv rfl k
theorem ldS (h : Blk w g 26 (sqA s)) (hgd : o.guard = none) (ho : o.op = .load 26 X) (hx : a.eval X = .pointer (some ⟨g, 0, none⟩))
    (k : wpList Try.prog ops Q rest (a.put o.dst (.agg (sqA s))) w) : wpList Try.prog ops Q (o :: rest) a w :=
  wpList_load_row hgd 26 X ho g hx 26 _ (0, 0) _ h Try.underlying26 rfl (info_sq _) k
/-- A part of a struct, at an operation that is wanted. -/
theorem gldM {ty : TypeId} {off : Nat} {cs : List Value} {d : TypeDesc} (hc : w.rangeAt g off cs) (hw : Region.wanted o (yielded ops a.tmps) = true) (ho : o.op = .load ty X) (hx : a.eval X = .pointer (some ⟨g, off, none⟩))
    (hu : Try.prog.underlying ty = some d) (hd : d.isRow = true) (hi : (Try.prog.info? ty).map (·.size) = some cs.length)
    (k : wpList Try.prog ops Q rest (a.put o.dst (.agg cs.toArray)) w) : wpList Try.prog ops Q (o :: rest) a w :=
  wpList_step fun K hK => by
    rw [if_pos hw]
    exact wp_load_mid _ X ho g off hx cs _ hc hu hd hi (hK _ _ k)
end
theorem info_rat : (Try.prog.info? 23).map (·.size) = some 2 := by kernel_rfl
theorem info_row8 (x : Nat → Int) : (Try.prog.info? 24).map (·.size) = some (rowL .u8 64 x).length := by rw [rowL_length]; exact info_arr8
/-- A header is valid. -/
def VS (s : Sq) : Prop := 16 ≤ s.W ∧ s.W ≤ 64 ∧ s.W % 16 = 0 ∧ 16 ≤ s.H ∧ s.H ≤ 64 ∧ s.H % 16 = 0 ∧ (s.il = true → s.H % 32 = 0) ∧ RV s.num s.den ∧ 1 ≤ s.num ∧ s.num ≤ 1048576 ∧ s.den ≤ 65536 ∧
  1 ≤ s.br ∧ s.br ≤ 16777216 ∧ 1 ≤ s.bf ∧ s.bf ≤ 8388608 ∧ 3 * s.den * s.br + 32 * s.num ≤ 2 * s.num * s.bf ∧ vld s.a 64 = true ∧ vld s.b 64 = true
instance (s : Sq) : Decidable (VS s) := by unfold VS; infer_instance
/-- Whether a header is valid. -/
def vs (s : Sq) : Bool := decide (VS s)
theorem vs_true {s : Sq} : vs s = true ↔ VS s := by simp [vs]
theorem vs_false {s : Sq} (h : ¬ VS s) : vs s = false := by simp [vs, h]
def mbB (n : Int) : Bool := decide (16 ≤ n ∧ n ≤ 64 ∧ n % 16 = 0)
theorem mb_any (w : World) (n : Int) : Calls Try.prog 41 #[.int .i64 n, .int .i64 64] w fun e w' => e = .returned (.bool (mbB n)) ∧ w = w' := by
  have HV := Lib.hid (show mbB n = decide (16 ≤ n ∧ n ≤ 64 ∧ n % 16 = 0) from rfl)
  by_cases h1 : 16 ≤ n
  · have d1 : decide (16 ≤ n) = true := by simpa using h1
    by_cases h2 : n ≤ 64
    · have d2 : decide (n ≤ 64) = true := by simpa using h2
      by_cases h3 : n % 16 = 0
      · have d3 : (n % 16 == 0) = true := by simpa using h3
        have H3 := Lib.hid h3
        clear h3
        go_enter Try.func41, Try.ntmps41
        go_wp2
        go_ret
        exact ⟨congrArg Ending.returned (congrArg Value.bool (by rw [HV.out]; simp [h1, h2, H3.out])), rfl⟩
      · have d3 : (n % 16 == 0) = false := by simpa using h3
        go_enter Try.func41, Try.ntmps41
        go_wp2
        go_ret
        exact ⟨congrArg Ending.returned (congrArg Value.bool (by rw [HV.out]; simp [h3])), rfl⟩
    · have d2 : decide (n ≤ 64) = false := by simpa using h2
      go_enter Try.func41, Try.ntmps41
      go_wp2
      go_ret
      exact ⟨congrArg Ending.returned (congrArg Value.bool (by rw [HV.out]; exact (decide_eq_false (by omega)).symm)), rfl⟩
  · have d1 : decide (16 ≤ n) = false := by simpa using h1
    go_enter Try.func41, Try.ntmps41
    go_wp2
    go_ret
    exact ⟨congrArg Ending.returned (congrArg Value.bool (by rw [HV.out]; exact (decide_eq_false (by omega)).symm)), rfl⟩
theorem mulp {a b A B : Int} (ha : 0 ≤ a ∧ a ≤ A) (hb : 0 ≤ b ∧ b ≤ B) : 0 ≤ a * b ∧ a * b ≤ A * B :=
  ⟨Int.mul_nonneg ha.1 hb.1, by
    have h1 : a * b ≤ A * b := Int.mul_le_mul_of_nonneg_right ha.2 hb.1
    have h2 : A * b ≤ A * B := Int.mul_le_mul_of_nonneg_left hb.2 (by omega)
    omega⟩

set_option maxHeartbeats 4000000 in
set_option maxRecDepth 100000 in
theorem refVs_any (w : World) (s : Sq) (hI : SqI s) : Calls Try.prog 28 #[.agg (sqA s)] w fun e w' => e = .returned (.bool (vs s)) ∧ Only [] w w' := by
  obtain ⟨W, H, num, den, il, br, bf, a, b⟩ := s
  by_cases k9 : W < 16
  · have dk9 : decide (W < 16) = true := by simpa using k9
    go_enter Try.func28, Try.ntmps28
    have tok : True := trivial
    go_wp2_with (clear tok; refine bxS (s := ⟨W, H, num, den, il, br, bf, a, b⟩) rfl rfl rfl ?_; rintro g1 w1 b1 o1 l1; obtain ⟨c0, c1, c2, c3, c4, c5, c6⟩ := b1.sq; simp only at c0 c1 c2 c3 c4 c5 c6)
    go_ret
    exact ⟨congrArg Ending.returned (congrArg Value.bool (vs_false (fun h => by unfold VS at h; simp only at h; omega)).symm), o1⟩
  · have dk9 : decide (W < 16) = false := by simpa using k9
    have gk9 : 16 ≤ W := by omega
    clear k9
    by_cases ka : 64 < W
    · have dka : decide (64 < W) = true := by simpa using ka
      go_enter Try.func28, Try.ntmps28
      have tok : True := trivial
      go_wp2_with (clear tok; refine bxS (s := ⟨W, H, num, den, il, br, bf, a, b⟩) rfl rfl rfl ?_; rintro g1 w1 b1 o1 l1; obtain ⟨c0, c1, c2, c3, c4, c5, c6⟩ := b1.sq; simp only at c0 c1 c2 c3 c4 c5 c6)
      go_ret
      exact ⟨congrArg Ending.returned (congrArg Value.bool (vs_false (fun h => by unfold VS at h; simp only at h; omega)).symm), o1⟩
    · have dka : decide (64 < W) = false := by simpa using ka
      have gka : W ≤ 64 := by omega
      clear ka
      by_cases m1 : ¬ W % 16 = 0
      · have dm1 : (W % 16 != 0) = true := by simpa using m1
        have em1 : (W % 16 == 0) = false := by simpa using m1
        go_enter Try.func28, Try.ntmps28
        have tok : True := trivial
        go_wp2_with (clear tok; refine bxS (s := ⟨W, H, num, den, il, br, bf, a, b⟩) rfl rfl rfl ?_; rintro g1 w1 b1 o1 l1; obtain ⟨c0, c1, c2, c3, c4, c5, c6⟩ := b1.sq; simp only at c0 c1 c2 c3 c4 c5 c6)
        go_ret
        exact ⟨congrArg Ending.returned (congrArg Value.bool (vs_false (fun h => by unfold VS at h; simp only at h; omega)).symm), o1⟩
      · have m1' : W % 16 = 0 := by omega
        have dm1 : (W % 16 != 0) = false := by simpa using m1'
        have em1 : (W % 16 == 0) = true := by simpa using m1'
        have Hm1 := Lib.hid m1'
        clear m1 m1'
        by_cases kb : H < 16
        · have dkb : decide (H < 16) = true := by simpa using kb
          go_enter Try.func28, Try.ntmps28
          have tok : True := trivial
          go_wp2_with (clear tok; refine bxS (s := ⟨W, H, num, den, il, br, bf, a, b⟩) rfl rfl rfl ?_; rintro g1 w1 b1 o1 l1; obtain ⟨c0, c1, c2, c3, c4, c5, c6⟩ := b1.sq; simp only at c0 c1 c2 c3 c4 c5 c6)
          go_ret
          exact ⟨congrArg Ending.returned (congrArg Value.bool (vs_false (fun h => by unfold VS at h; simp only at h; omega)).symm), o1⟩
        · have dkb : decide (H < 16) = false := by simpa using kb
          have gkb : 16 ≤ H := by omega
          clear kb
          by_cases kc : 64 < H
          · have dkc : decide (64 < H) = true := by simpa using kc
            go_enter Try.func28, Try.ntmps28
            have tok : True := trivial
            go_wp2_with (clear tok; refine bxS (s := ⟨W, H, num, den, il, br, bf, a, b⟩) rfl rfl rfl ?_; rintro g1 w1 b1 o1 l1; obtain ⟨c0, c1, c2, c3, c4, c5, c6⟩ := b1.sq; simp only at c0 c1 c2 c3 c4 c5 c6)
            go_ret
            exact ⟨congrArg Ending.returned (congrArg Value.bool (vs_false (fun h => by unfold VS at h; simp only at h; omega)).symm), o1⟩
          · have dkc : decide (64 < H) = false := by simpa using kc
            have gkc : H ≤ 64 := by omega
            clear kc
            by_cases m2 : ¬ H % 16 = 0
            · have dm2 : (H % 16 != 0) = true := by simpa using m2
              have em2 : (H % 16 == 0) = false := by simpa using m2
              go_enter Try.func28, Try.ntmps28
              have tok : True := trivial
              go_wp2_with (clear tok; refine bxS (s := ⟨W, H, num, den, il, br, bf, a, b⟩) rfl rfl rfl ?_; rintro g1 w1 b1 o1 l1; obtain ⟨c0, c1, c2, c3, c4, c5, c6⟩ := b1.sq; simp only at c0 c1 c2 c3 c4 c5 c6)
              go_ret
              exact ⟨congrArg Ending.returned (congrArg Value.bool (vs_false (fun h => by unfold VS at h; simp only at h; omega)).symm), o1⟩
            · have m2' : H % 16 = 0 := by omega
              have dm2 : (H % 16 != 0) = false := by simpa using m2'
              have em2 : (H % 16 == 0) = true := by simpa using m2'
              have Hm2 := Lib.hid m2'
              clear m2 m2'
              cases il with
              | true =>
                by_cases m3 : ¬ H % 32 = 0
                · have dm3 : (H % 32 != 0) = true := by simpa using m3
                  have em3 : (H % 32 == 0) = false := by simpa using m3
                  go_enter Try.func28, Try.ntmps28
                  have tok : True := trivial
                  go_wp2_with (clear tok; refine bxS (s := ⟨W, H, num, den, true, br, bf, a, b⟩) rfl rfl rfl ?_; rintro g1 w1 b1 o1 l1; obtain ⟨c0, c1, c2, c3, c4, c5, c6⟩ := b1.sq; simp only at c0 c1 c2 c3 c4 c5 c6)
                  go_ret
                  exact ⟨congrArg Ending.returned (congrArg Value.bool (vs_false (fun h => by unfold VS at h; simp only at h; have := h.2.2.2.2.2.2.1 trivial; omega)).symm), o1⟩
                · have m3' : H % 32 = 0 := by omega
                  have dm3 : (H % 32 != 0) = false := by simpa using m3'
                  have em3 : (H % 32 == 0) = true := by simpa using m3'
                  have Hm3 := Lib.hid m3'
                  clear m3 m3'
                  have HIL := Lib.hid (show (true = true → H % 32 = 0) from fun _ => Hm3.out)
                  go_enter Try.func28, Try.ntmps28
                  have tok : True := trivial
                  have tok2 : True := trivial
                  go_wp2_with (first | (clear tok; refine bxS (s := ⟨W, H, num, den, true, br, bf, a, b⟩) rfl rfl rfl ?_; rintro g1 w1 b1 o1 l1; obtain ⟨c0, c1, c2, c3, c4, c5, c6⟩ := b1.sq; simp only at c0 c1 c2 c3 c4 c5 c6; have R2 := b1.sqRate; simp only at R2) | (clear tok2; refine gldM R2 rfl rfl rfl Try.underlying23 rfl info_rat ?_))
                  refine (refRat_any _ num den hI.num hI.den).mono ?_
                  rintro e w3 ⟨rfl, o3⟩
                  have hb3 := b1.only o3 (by simp)
                  have ho3 := o1.then o3
                  obtain ⟨C0, C1, C2, C3, C4, C5, C6⟩ := hb3.sq
                  simp only at C0 C1 C2 C3 C4 C5 C6
                  have R7 := hb3.sqIntra
                  simp only at R7
                  clear c0 c1 c2 c3 c4 c5 c6
                  cases hrv : decide (RV num den) with
                  | false =>
                    have hnr : ¬ RV num den := by simpa using hrv
                    go_wp2_with fail
                    go_ret
                    exact ⟨congrArg Ending.returned (congrArg Value.bool (vs_false (fun h => hnr h.2.2.2.2.2.2.2.1)).symm), ho3⟩
                  | true =>
                    have hr0 : RV num den := by simpa using hrv
                    have hden : 1 ≤ den := hr0.1
                    have HRV := Lib.hid hr0
                    clear hr0 hrv
                    by_cases k1 : num < 1
                    · have dk1 : decide (num < 1) = true := by simpa using k1
                      go_wp2_with fail
                      go_ret
                      exact ⟨congrArg Ending.returned (congrArg Value.bool (vs_false (fun h => by unfold VS at h; simp only at h; omega)).symm), ho3⟩
                    · have dk1 : decide (num < 1) = false := by simpa using k1
                      have gk1 : 1 ≤ num := by omega
                      clear k1
                      by_cases k2 : 1048576 < num
                      · have dk2 : decide (1048576 < num) = true := by simpa using k2
                        go_wp2_with fail
                        go_ret
                        exact ⟨congrArg Ending.returned (congrArg Value.bool (vs_false (fun h => by unfold VS at h; simp only at h; omega)).symm), ho3⟩
                      · have dk2 : decide (1048576 < num) = false := by simpa using k2
                        have gk2 : num ≤ 1048576 := by omega
                        clear k2
                        by_cases k3 : 65536 < den
                        · have dk3 : decide (65536 < den) = true := by simpa using k3
                          go_wp2_with fail
                          go_ret
                          exact ⟨congrArg Ending.returned (congrArg Value.bool (vs_false (fun h => by unfold VS at h; simp only at h; omega)).symm), ho3⟩
                        · have dk3 : decide (65536 < den) = false := by simpa using k3
                          have gk3 : den ≤ 65536 := by omega
                          clear k3
                          by_cases k4 : br < 1
                          · have dk4 : decide (br < 1) = true := by simpa using k4
                            go_wp2_with fail
                            go_ret
                            exact ⟨congrArg Ending.returned (congrArg Value.bool (vs_false (fun h => by unfold VS at h; simp only at h; omega)).symm), ho3⟩
                          · have dk4 : decide (br < 1) = false := by simpa using k4
                            have gk4 : 1 ≤ br := by omega
                            clear k4
                            by_cases k5 : 16777216 < br
                            · have dk5 : decide (16777216 < br) = true := by simpa using k5
                              go_wp2_with fail
                              go_ret
                              exact ⟨congrArg Ending.returned (congrArg Value.bool (vs_false (fun h => by unfold VS at h; simp only at h; omega)).symm), ho3⟩
                            · have dk5 : decide (16777216 < br) = false := by simpa using k5
                              have gk5 : br ≤ 16777216 := by omega
                              clear k5
                              by_cases k6 : bf < 1
                              · have dk6 : decide (bf < 1) = true := by simpa using k6
                                go_wp2_with fail
                                go_ret
                                exact ⟨congrArg Ending.returned (congrArg Value.bool (vs_false (fun h => by unfold VS at h; simp only at h; omega)).symm), ho3⟩
                              · have dk6 : decide (bf < 1) = false := by simpa using k6
                                have gk6 : 1 ≤ bf := by omega
                                clear k6
                                by_cases k7 : 8388608 < bf
                                · have dk7 : decide (8388608 < bf) = true := by simpa using k7
                                  go_wp2_with fail
                                  go_ret
                                  exact ⟨congrArg Ending.returned (congrArg Value.bool (vs_false (fun h => by unfold VS at h; simp only at h; omega)).symm), ho3⟩
                                · have dk7 : decide (8388608 < bf) = false := by simpa using k7
                                  have gk7 : bf ≤ 8388608 := by omega
                                  clear k7
                                  have hp1 : 0 ≤ num * bf ∧ num * bf ≤ 1048576 * 8388608 := mulp (by omega) (by omega)
                                  have hp2 : 0 ≤ den * br ∧ den * br ≤ 65536 * 16777216 := mulp (by omega) (by omega)
                                  have hp3 : 2 * num * bf = 2 * (num * bf) := Int.mul_assoc _ _ _
                                  have hp4 : 3 * den * br = 3 * (den * br) := Int.mul_assoc _ _ _
                                  have hq1 : 0 ≤ 2 * num * bf ∧ 2 * num * bf ≤ 2 * (1048576 * 8388608) := by omega
                                  have hq2 : 0 ≤ 3 * den * br ∧ 3 * den * br ≤ 3 * (65536 * 16777216) := by omega
                                  clear hp1 hp2 hp3 hp4
                                  by_cases k8 : 2 * num * bf < 3 * den * br + 32 * num
                                  · have dk8 : decide (2 * num * bf < 3 * den * br + 32 * num) = true := by simpa using k8
                                    go_wp2_with fail
                                    go_ret
                                    exact ⟨congrArg Ending.returned (congrArg Value.bool (vs_false (fun h => by unfold VS at h; simp only at h; omega)).symm), ho3⟩
                                  · have dk8 : decide (2 * num * bf < 3 * den * br + 32 * num) = false := by simpa using k8
                                    have gk8 : 3 * den * br + 32 * num ≤ 2 * num * bf := by omega
                                    clear k8
                                    have tok : True := trivial
                                    go_wp2_with (clear tok; refine gldM R7 rfl rfl rfl Try.underlying24 rfl (info_row8 _) ?_)
                                    refine (refValid_any _ a).mono ?_
                                    rintro e w4 ⟨rfl, o4⟩
                                    have hb4 := hb3.only o4 (by simp)
                                    have R8 := hb4.sqInter
                                    cases hva : vld a 64 with
                                    | false =>
                                      go_wp2_with fail
                                      go_ret
                                      exact ⟨congrArg Ending.returned (congrArg Value.bool (vs_false (fun h => by unfold VS at h; simp only at h; rw [hva] at h; simp at h)).symm), (ho3.then o4)⟩
                                    | true =>
                                      have tok : True := trivial
                                      go_wp2_with (clear tok; refine gldM R8 rfl rfl rfl Try.underlying24 rfl (info_row8 _) ?_)
                                      refine (refValid_any _ b).mono ?_
                                      rintro e w5 ⟨rfl, o5⟩
                                      cases hvb : vld b 64 with
                                      | false =>
                                        go_wp2_with fail
                                        go_ret
                                        exact ⟨congrArg Ending.returned (congrArg Value.bool (vs_false (fun h => by unfold VS at h; simp only at h; rw [hvb] at h; simp at h)).symm), (ho3.then o4).then o5⟩
                                      | true =>
                                        go_wp2_with fail
                                        go_ret
                                        refine ⟨congrArg Ending.returned (congrArg Value.bool (vs_true.2 ?_).symm), (ho3.then o4).then o5⟩
                                        exact ⟨by omega, by omega, Hm1.out, by omega, by omega, Hm2.out, (fun h => by first | (cases h; done) | exact HIL.out trivial | exact HIL.out h), HRV.out, by omega, by omega, by omega, by omega, by omega, by omega, by omega, by omega, hva, hvb⟩
              | false =>
                have HIL := Lib.hid (show (false = true → H % 32 = 0) from fun h => by cases h)
                go_enter Try.func28, Try.ntmps28
                have tok : True := trivial
                have tok2 : True := trivial
                go_wp2_with (first | (clear tok; refine bxS (s := ⟨W, H, num, den, false, br, bf, a, b⟩) rfl rfl rfl ?_; rintro g1 w1 b1 o1 l1; obtain ⟨c0, c1, c2, c3, c4, c5, c6⟩ := b1.sq; simp only at c0 c1 c2 c3 c4 c5 c6; have R2 := b1.sqRate; simp only at R2) | (clear tok2; refine gldM R2 rfl rfl rfl Try.underlying23 rfl info_rat ?_))
                refine (refRat_any _ num den hI.num hI.den).mono ?_
                rintro e w3 ⟨rfl, o3⟩
                have hb3 := b1.only o3 (by simp)
                have ho3 := o1.then o3
                obtain ⟨C0, C1, C2, C3, C4, C5, C6⟩ := hb3.sq
                simp only at C0 C1 C2 C3 C4 C5 C6
                have R7 := hb3.sqIntra
                simp only at R7
                clear c0 c1 c2 c3 c4 c5 c6
                cases hrv : decide (RV num den) with
                | false =>
                  have hnr : ¬ RV num den := by simpa using hrv
                  go_wp2_with fail
                  go_ret
                  exact ⟨congrArg Ending.returned (congrArg Value.bool (vs_false (fun h => hnr h.2.2.2.2.2.2.2.1)).symm), ho3⟩
                | true =>
                  have hr0 : RV num den := by simpa using hrv
                  have hden : 1 ≤ den := hr0.1
                  have HRV := Lib.hid hr0
                  clear hr0 hrv
                  by_cases k1 : num < 1
                  · have dk1 : decide (num < 1) = true := by simpa using k1
                    go_wp2_with fail
                    go_ret
                    exact ⟨congrArg Ending.returned (congrArg Value.bool (vs_false (fun h => by unfold VS at h; simp only at h; omega)).symm), ho3⟩
                  · have dk1 : decide (num < 1) = false := by simpa using k1
                    have gk1 : 1 ≤ num := by omega
                    clear k1
                    by_cases k2 : 1048576 < num
                    · have dk2 : decide (1048576 < num) = true := by simpa using k2
                      go_wp2_with fail
                      go_ret
                      exact ⟨congrArg Ending.returned (congrArg Value.bool (vs_false (fun h => by unfold VS at h; simp only at h; omega)).symm), ho3⟩
                    · have dk2 : decide (1048576 < num) = false := by simpa using k2
                      have gk2 : num ≤ 1048576 := by omega
                      clear k2
                      by_cases k3 : 65536 < den
                      · have dk3 : decide (65536 < den) = true := by simpa using k3
                        go_wp2_with fail
                        go_ret
                        exact ⟨congrArg Ending.returned (congrArg Value.bool (vs_false (fun h => by unfold VS at h; simp only at h; omega)).symm), ho3⟩
                      · have dk3 : decide (65536 < den) = false := by simpa using k3
                        have gk3 : den ≤ 65536 := by omega
                        clear k3
                        by_cases k4 : br < 1
                        · have dk4 : decide (br < 1) = true := by simpa using k4
                          go_wp2_with fail
                          go_ret
                          exact ⟨congrArg Ending.returned (congrArg Value.bool (vs_false (fun h => by unfold VS at h; simp only at h; omega)).symm), ho3⟩
                        · have dk4 : decide (br < 1) = false := by simpa using k4
                          have gk4 : 1 ≤ br := by omega
                          clear k4
                          by_cases k5 : 16777216 < br
                          · have dk5 : decide (16777216 < br) = true := by simpa using k5
                            go_wp2_with fail
                            go_ret
                            exact ⟨congrArg Ending.returned (congrArg Value.bool (vs_false (fun h => by unfold VS at h; simp only at h; omega)).symm), ho3⟩
                          · have dk5 : decide (16777216 < br) = false := by simpa using k5
                            have gk5 : br ≤ 16777216 := by omega
                            clear k5
                            by_cases k6 : bf < 1
                            · have dk6 : decide (bf < 1) = true := by simpa using k6
                              go_wp2_with fail
                              go_ret
                              exact ⟨congrArg Ending.returned (congrArg Value.bool (vs_false (fun h => by unfold VS at h; simp only at h; omega)).symm), ho3⟩
                            · have dk6 : decide (bf < 1) = false := by simpa using k6
                              have gk6 : 1 ≤ bf := by omega
                              clear k6
                              by_cases k7 : 8388608 < bf
                              · have dk7 : decide (8388608 < bf) = true := by simpa using k7
                                go_wp2_with fail
                                go_ret
                                exact ⟨congrArg Ending.returned (congrArg Value.bool (vs_false (fun h => by unfold VS at h; simp only at h; omega)).symm), ho3⟩
                              · have dk7 : decide (8388608 < bf) = false := by simpa using k7
                                have gk7 : bf ≤ 8388608 := by omega
                                clear k7
                                have hp1 : 0 ≤ num * bf ∧ num * bf ≤ 1048576 * 8388608 := mulp (by omega) (by omega)
                                have hp2 : 0 ≤ den * br ∧ den * br ≤ 65536 * 16777216 := mulp (by omega) (by omega)
                                have hp3 : 2 * num * bf = 2 * (num * bf) := Int.mul_assoc _ _ _
                                have hp4 : 3 * den * br = 3 * (den * br) := Int.mul_assoc _ _ _
                                have hq1 : 0 ≤ 2 * num * bf ∧ 2 * num * bf ≤ 2 * (1048576 * 8388608) := by omega
                                have hq2 : 0 ≤ 3 * den * br ∧ 3 * den * br ≤ 3 * (65536 * 16777216) := by omega
                                clear hp1 hp2 hp3 hp4
                                by_cases k8 : 2 * num * bf < 3 * den * br + 32 * num
                                · have dk8 : decide (2 * num * bf < 3 * den * br + 32 * num) = true := by simpa using k8
                                  go_wp2_with fail
                                  go_ret
                                  exact ⟨congrArg Ending.returned (congrArg Value.bool (vs_false (fun h => by unfold VS at h; simp only at h; omega)).symm), ho3⟩
                                · have dk8 : decide (2 * num * bf < 3 * den * br + 32 * num) = false := by simpa using k8
                                  have gk8 : 3 * den * br + 32 * num ≤ 2 * num * bf := by omega
                                  clear k8
                                  have tok : True := trivial
                                  go_wp2_with (clear tok; refine gldM R7 rfl rfl rfl Try.underlying24 rfl (info_row8 _) ?_)
                                  refine (refValid_any _ a).mono ?_
                                  rintro e w4 ⟨rfl, o4⟩
                                  have hb4 := hb3.only o4 (by simp)
                                  have R8 := hb4.sqInter
                                  cases hva : vld a 64 with
                                  | false =>
                                    go_wp2_with fail
                                    go_ret
                                    exact ⟨congrArg Ending.returned (congrArg Value.bool (vs_false (fun h => by unfold VS at h; simp only at h; rw [hva] at h; simp at h)).symm), (ho3.then o4)⟩
                                  | true =>
                                    have tok : True := trivial
                                    go_wp2_with (clear tok; refine gldM R8 rfl rfl rfl Try.underlying24 rfl (info_row8 _) ?_)
                                    refine (refValid_any _ b).mono ?_
                                    rintro e w5 ⟨rfl, o5⟩
                                    cases hvb : vld b 64 with
                                    | false =>
                                      go_wp2_with fail
                                      go_ret
                                      exact ⟨congrArg Ending.returned (congrArg Value.bool (vs_false (fun h => by unfold VS at h; simp only at h; rw [hvb] at h; simp at h)).symm), (ho3.then o4).then o5⟩
                                    | true =>
                                      go_wp2_with fail
                                      go_ret
                                      refine ⟨congrArg Ending.returned (congrArg Value.bool (vs_true.2 ?_).symm), (ho3.then o4).then o5⟩
                                      exact ⟨by omega, by omega, Hm1.out, by omega, by omega, Hm2.out, (fun h => by first | (cases h; done) | exact HIL.out trivial | exact HIL.out h), HRV.out, by omega, by omega, by omega, by omega, by omega, by omega, by omega, by omega, hva, hvb⟩
end Go.Proofs.Ytmghfhjiodeaeaa
