/- The contract of quant.Bound. -/
import Derived.Test.YtdcbkmjmakogeaaQb
namespace Go.Proofs.Ytdcbkmjmakogeaa
open Go.RowKit

theorem zero47 : (Try.prog.info? 47).map (·.zero) = some (some (.agg (arr .i64 64 fun _ => 0))) := by kernel_rfl
theorem zero49 : (Try.prog.info? 49).map (·.zero) = some (some (.agg (arr .i64 64 fun _ => 0))) := by kernel_rfl
theorem info_of_arr47 (x : Nat → Int) : (Try.prog.info? 47).map (·.size) = some (arr .i64 64 x).size := by rw [arr_size]; kernel_rfl
theorem size_int64 (w : World) : (sizeOf 2).run Try.prog w = .ok 1 w := by kernel_rfl
theorem idx47 (x : Nat → Int) (k : Nat) (hk : k < 64) (w : World) : (Instr.index 47 (.agg (arr .i64 64 x)) (.int .i64 (k : Int))).run Try.prog w = .ok (.int .i64 (x k)) w :=
  run_index_arr w _ _ _ _ _ Try.underlying47 Try.underlying2 size_int64 _ _ hk
/-- The table of At. -/
def Atm (n : Nat) : Int := At (n / 8) (n % 8)
theorem Atm_at (i k : Nat) (hk : k < 8) : Atm (i * 8 + k) = At i k := by
  unfold Atm
  rw [show (i * 8 + k) / 8 = i by omega, show (i * 8 + k) % 8 = k by omega]

set_option maxHeartbeats 4000000 in
set_option maxRecDepth 100000 in
theorem bound_any (w : World) (m : Nat → Int) (q : Int) (hU : U8 m) : Calls Try.prog 25 #[.agg (arr .u8 64 m), .int .i64 q] w fun e w' => e = .returned (.int .i64 (bnd m q)) ∧ Only [] w w' := by
  go_enter Try.func25, Try.ntmps25
  go_wp2_with (first | (refine bx8 (x := m) rfl rfl rfl ?_; rintro g1 w1 b1 o1 l1) | refine ld8 b1 rfl rfl rfl ?_)
  refine (valid_any _ m).mono ?_
  rintro e w2 ⟨rfl, o2⟩
  have ho := o1.then o2
  have b2 := b1.only o2 (by simp)
  have hz2 := o2.size
  have hl1 := b1.lt
  clear o1 o2 b1
  cases hv0 : vld m 64 with
  | false =>
    have HE := Lib.hid (show bnd m q = 0 from by unfold bnd mayB; simp [hv0])
    clear hv0
    go_wp2_with fail
    go_ret
    exact ⟨congrArg Ending.returned (congrArg (Value.int IntKind.i64) HE.out.symm), ho⟩
  | true =>
    go_wp2_with fail
    refine (vq_any _ q).mono ?_
    rintro e wv ⟨rfl, rfl⟩
    cases hq0 : vq q with
    | false =>
      have HE := Lib.hid (show bnd m q = 0 from by unfold bnd mayB; simp [hq0])
      clear hv0 hq0
      go_wp2_with fail
      go_ret
      exact ⟨congrArg Ending.returned (congrArg (Value.int IntKind.i64) HE.out.symm), ho⟩
    | true =>
      have hmay : mayB m q = true := by unfold mayB; rw [hv0, hq0]; rfl
      have hq := may_q hmay
      have hv := may_v hmay
      have hm : ∀ n, n < 64 → 8 ≤ m n ∧ m n ≤ 255 := fun n hn => ⟨hv n hn, (hU n hn).2⟩
      have HE := Lib.hid (show bnd m q = (mx (bs m q) 64 + 547363225600) / 1094726451200 from by unfold bnd; simp [hmay])
      have hB := bs_bd hm hq
      clear hmay hv hv0 hq0
      go_wp2_with (first | (refine wal _ (arr .i64 64 fun _ => 0) rfl rfl zero47 rfl ?_; rintro g2 w3 b3 o3 l3) | (have b2' := b2.only o3 (by simp); refine ld8 b2' rfl rfl rfl ?_))
      have ho3 := ho.then o3
      clear ho b2 b2' o3
      go_loopw [27] (fun i wr => ∃ k : Nat, k ≤ 64 ∧ i = .int .i64 k ∧ Only [] w wr ∧ Blk wr g2 47 (arr .i64 64 (upto k (stp m q)))) (fun i _ => 64 - (intOf i).toNat)
      case atStart => exact ⟨0, by omega, rfl, ho3, by rw [arr_upto_zero]; exact b3⟩
      case round =>
        obtain ⟨k, hk, rfl, hok, hb⟩ := hrel
        by_cases hlt : k < 64
        · have hd : decide ((k : Int) < 64) = true := by simp; omega
          have hat := idxB m k hlt
          have hmk := hm k hlt
          have hs := mqg_bd hmk hq hlt
          go_wp2_with fail
          refine (step_in _ (m k) q k hmk hq hlt).mono ?_
          rintro e wq ⟨rfl, oq⟩
          have hb3 := hb.only oq (by simp)
          have c3 := hb3.cell k
          rw [arr_get hlt] at c3
          have fz3 := hb3.frozen k
          obtain ⟨s1, s2⟩ := hb3.set1 k (.int .i64 (m k * q * Gk k))
          rw [arr_set_upto (x := stp m q) (v := m k * q * Gk k) hlt rfl] at s1
          have On := Lib.hid ((hok.then oq).own s2 (by have := ho3.size; omega))
          have Hb := Lib.hid s1
          clear s1 s2
          go_wp2_with fail
          exact ⟨⟨k + 1, by omega, by go_num, On.out, Hb.out⟩, by simp [intOf]; omega⟩
        · obtain rfl : k = 64 := by omega
          rw [arr_upto_all (by omega)] at hb
          have hst := hb
          have hoa := hok
          obtain ⟨wa, rfl⟩ : ∃ wa, wa = wr := ⟨_, rfl⟩
          clear hb hok b3 ho3
          go_wp2_with (refine wal _ (arr .i64 64 fun _ => 0) rfl rfl zero49 rfl ?_; rintro g3 w4 b4 o4 l4)
          have ho4 := hoa.then o4
          have hst4 := hst.only o4 (by simp)
          have hlg := hst.lt
          have hsz := hoa.size
          clear hst o4 hoa
          go_loopw [39] (fun i wr => ∃ k : Nat, k ≤ 8 ∧ i = .int .i64 k ∧ Only [] w wr ∧ Only [g3] w4 wr ∧ Blk wr g3 49 (arr .i64 64 (upto (8 * k) Atm))) (fun i _ => 8 - (intOf i).toNat)
          case atStart => exact ⟨0, by omega, rfl, ho4, Only.refl _ _, by rw [arr_upto_zero]; exact b4⟩
          case round =>
            obtain ⟨k, hk, rfl, hok, hook, hb⟩ := hrel
            by_cases hlt : k < 8
            · have hd : decide ((k : Int) < 8) = true := by simp; omega
              obtain ⟨wb, rfl⟩ : ∃ wb, wb = wr := ⟨_, rfl⟩
              go_wp2_with fail
              go_loopw [42] (fun i wr => ∃ j : Nat, j ≤ 8 ∧ i = .int .i64 j ∧ Only [] w wr ∧ Only [g3] w4 wr ∧ Blk wr g3 49 (arr .i64 64 (upto (8 * k + j) Atm))) (fun i _ => 8 - (intOf i).toNat)
              case atStart => exact ⟨0, by omega, rfl, hok, hook, hb⟩
              case round =>
                obtain ⟨j, hj, rfl, hoj, hooj, hbj⟩ := hrel
                by_cases hjl : j < 8
                · have hdj : decide ((j : Int) < 8) = true := by simp; omega
                  have ha1 := At_bd hlt hjl
                  have ht1 := T_bd hlt hjl
                  have H1 := Lib.hid (show At k j = absI (T k j) * Mm k from rfl)
                  have HA := Lib.hid (show Atm (8 * k + j) = At k j from by rw [Nat.mul_comm]; exact Atm_at k j hjl)
                  have hb1 := ha1
                  rw [H1.out] at hb1
                  obtain ⟨q1, q2, q3, q4, q5⟩ := quoM ⟨k, by omega⟩
                  simp only at q1 q2 q3 q4 q5
                  have z1 : (Nm (k) == 0) = false := by simp; omega
                  have y1 : ¬ Nm (k) = 0 := by omega
                  go_wp2_with fail
                  refine (basis_in _ k j hlt hjl).mono ?_
                  rintro e v1 ⟨rfl, p1⟩
                  have hb2 := hbj.only p1 (by simp)
                  generalize At k j = a1 at ha1 H1 HA
                  generalize T k j = t1 at ht1 hb1 H1
                  have hab : (if t1 < -t1 then -t1 else t1) = absI t1 := by unfold absI; split <;> omega
                  have HAB := Lib.hid hab
                  clear hab
                  by_cases hneg : t1 < -t1
                  · rw [if_pos hneg] at HAB
                    rw [← HAB.out] at hb1
                    go_wp2_with fail
                    refine rgnT (Cls v1) 11 (by kernel_rfl) (by kernel_rfl) Cls.refl ?_
                    simp only [List.take_succ_cons, List.take_zero, List.drop_succ_cons, List.drop_zero]
                    repeat (first | (refine qU rfl ?_; simp only [Act.put, List.setIfInBounds_toArray, List.set_cons_zero, List.set_cons_succ]) | (refine qW ?_ rfl rfl (fun w hC K hK => ?_) ?_; rotate_left; (focus ((go_wp2_with fail) <;> exact hK _ hC)); simp only [Act.put, List.setIfInBounds_toArray, List.set_cons_zero, List.set_cons_succ]))
                    refine qC (fun w hC => Calls.cls hC (norm_in w k hlt)) rfl (fun w => ?_) ?_
                    · go_simp; try rfl
                    simp only [Act.put, List.setIfInBounds_toArray, List.set_cons_zero, List.set_cons_succ]
                    repeat (first | (refine qU rfl ?_; simp only [Act.put, List.setIfInBounds_toArray, List.set_cons_zero, List.set_cons_succ]) | (refine qW ?_ rfl rfl (fun w hC K hK => ?_) ?_; rotate_left; (focus ((go_wp2_with fail) <;> exact hK _ hC)); simp only [Act.put, List.setIfInBounds_toArray, List.set_cons_zero, List.set_cons_succ]))
                    refine qN ?_
                    intro w' hw'
                    have hb3 := hw'.blk hb2
                    have c3 := hb3.cell (8 * k + j)
                    rw [arr_get (by omega), Nat.mul_comm] at c3
                    have fz3 := hb3.frozen (8 * k + j)
                    rw [Nat.mul_comm] at fz3
                    obtain ⟨s1, s2⟩ := hb3.set1 (8 * k + j) (.int .i64 (-t1 * Mm k))
                    rw [arr_set_upto (x := Atm) (v := -t1 * Mm k) (by omega) (by rw [HA.out, H1.out, ← HAB.out])] at s1
                    have On := Lib.hid (((hoj.then p1).then hw'.only).own s2 (by omega))
                    have Onn := Lib.hid (((hooj.then p1).then hw'.only).same s2)
                    have Hb := Lib.hid s1
                    rw [show 8 * k + j = k * 8 + j by omega] at On Onn
                    rw [show (⟨g3, 8 * k + j, none⟩ : Addr) = ⟨g3, k * 8 + j, none⟩ by rw [Nat.mul_comm]] at Hb
                    clear s1 s2
                    go_wp2_with fail
                    exact ⟨⟨j + 1, by omega, by go_num, On.out, Onn.out, Hb.out⟩, by simp [intOf]; omega⟩
                  · rw [if_neg hneg] at HAB
                    rw [← HAB.out] at hb1
                    go_wp2_with fail
                    refine rgnT (Cls v1) 11 (by kernel_rfl) (by kernel_rfl) Cls.refl ?_
                    simp only [List.take_succ_cons, List.take_zero, List.drop_succ_cons, List.drop_zero]
                    repeat (first | (refine qU rfl ?_; simp only [Act.put, List.setIfInBounds_toArray, List.set_cons_zero, List.set_cons_succ]) | (refine qW ?_ rfl rfl (fun w hC K hK => ?_) ?_; rotate_left; (focus ((go_wp2_with fail) <;> exact hK _ hC)); simp only [Act.put, List.setIfInBounds_toArray, List.set_cons_zero, List.set_cons_succ]))
                    refine qC (fun w hC => Calls.cls hC (norm_in w k hlt)) rfl (fun w => ?_) ?_
                    · go_simp; try rfl
                    simp only [Act.put, List.setIfInBounds_toArray, List.set_cons_zero, List.set_cons_succ]
                    repeat (first | (refine qU rfl ?_; simp only [Act.put, List.setIfInBounds_toArray, List.set_cons_zero, List.set_cons_succ]) | (refine qW ?_ rfl rfl (fun w hC K hK => ?_) ?_; rotate_left; (focus ((go_wp2_with fail) <;> exact hK _ hC)); simp only [Act.put, List.setIfInBounds_toArray, List.set_cons_zero, List.set_cons_succ]))
                    refine qN ?_
                    intro w' hw'
                    have hb3 := hw'.blk hb2
                    have c3 := hb3.cell (8 * k + j)
                    rw [arr_get (by omega), Nat.mul_comm] at c3
                    have fz3 := hb3.frozen (8 * k + j)
                    rw [Nat.mul_comm] at fz3
                    obtain ⟨s1, s2⟩ := hb3.set1 (8 * k + j) (.int .i64 (t1 * Mm k))
                    rw [arr_set_upto (x := Atm) (v := t1 * Mm k) (by omega) (by rw [HA.out, H1.out, ← HAB.out])] at s1
                    have On := Lib.hid (((hoj.then p1).then hw'.only).own s2 (by omega))
                    have Onn := Lib.hid (((hooj.then p1).then hw'.only).same s2)
                    have Hb := Lib.hid s1
                    rw [show 8 * k + j = k * 8 + j by omega] at On Onn
                    rw [show (⟨g3, 8 * k + j, none⟩ : Addr) = ⟨g3, k * 8 + j, none⟩ by rw [Nat.mul_comm]] at Hb
                    clear s1 s2
                    go_wp2_with fail
                    exact ⟨⟨j + 1, by omega, by go_num, On.out, Onn.out, Hb.out⟩, by simp [intOf]; omega⟩
                · obtain rfl : j = 8 := by omega
                  have Hb := Lib.hid (show Blk wr g3 49 (arr .i64 64 (upto (8 * (k + 1)) Atm)) from by rw [show 8 * (k + 1) = 8 * k + 8 by omega]; exact hbj)
                  go_wp2_with fail
                  exact ⟨⟨k + 1, by omega, by go_num, hoj, hooj, Hb.out⟩, by simp [intOf]; omega⟩
            · obtain rfl : k = 8 := by omega
              rw [arr_upto_all (by omega)] at hb
              have hst5 := hst4.only hook (by simp; omega)
              have ht5 := hb
              have ho5 := hok
              obtain ⟨w5, rfl⟩ : ∃ w5, w5 = wr := ⟨_, rfl⟩
              clear hb hok hook hst4 b4 ho4
              go_wp2_with fail
              go_loopw [12, 62] (fun s i wr => ∃ k : Nat, k ≤ 8 ∧ i = .int .i64 k ∧ s = .int .i64 (mx (bs m q) (8 * k)) ∧ Only [] w5 wr) (fun _ i _ => 8 - (intOf i).toNat)
              case atStart => exact ⟨0, by omega, rfl, rfl, Only.refl _ _⟩
              case round =>
                obtain ⟨k, hk, rfl, rfl, ok⟩ := hrel
                by_cases hlt : k < 8
                · have hd : decide ((k : Int) < 8) = true := by simp; omega
                  obtain ⟨wa, rfl⟩ : ∃ wa, wa = wr := ⟨_, rfl⟩
                  go_wp2_with fail
                  go_loopw [12, 65] (fun s i wr => ∃ j : Nat, j ≤ 8 ∧ i = .int .i64 j ∧ s = .int .i64 (mx (bs m q) (8 * k + j)) ∧ Only [] w5 wr) (fun _ i _ => 8 - (intOf i).toNat)
                  case atStart => exact ⟨0, by omega, rfl, rfl, ok⟩
                  case round =>
                    obtain ⟨j, hj, rfl, rfl, oj⟩ := hrel
                    by_cases hjl : j < 8
                    · have hdj : decide ((j : Int) < 8) = true := by simp; omega
                      obtain ⟨wb, rfl⟩ : ∃ wb, wb = wr := ⟨_, rfl⟩
                      have hstb := hst5.only oj (by simp)
                      go_wp2_with (refine wpList_load_row rfl 47 _ rfl g2 rfl 47 _ (0, 0) _ hstb Try.underlying47 rfl (info_of_arr47 _) ?_)
                      go_loopw [15, 69] (fun s i wr => ∃ n : Nat, n ≤ 64 ∧ i = .int .i64 n ∧ s = .int .i64 (sumTo (bt m q k j) n) ∧ Only [] w5 wr) (fun _ i _ => 64 - (intOf i).toNat)
                      case atStart => exact ⟨0, by omega, rfl, rfl, oj⟩
                      case round =>
                        obtain ⟨n, hn, rfl, rfl, on⟩ := hrel
                        by_cases hnl : n < 64
                        · have hdn : decide ((n : Int) < 64) = true := by simp; omega
                          have hi8 : n / 8 < 8 := by omega
                          have hj8 : n % 8 < 8 := by omega
                          have hat := idx47 (stp m q) n hnl
                          have hst0 : stp m q n = m n * q * Gk n := rfl
                          have c1 := (ht5.only on (by simp)).cell (n / 8 * 8 + k)
                          rw [arr_get (by omega), Atm_at _ _ hlt] at c1
                          have c2 := (ht5.only on (by simp)).cell (n % 8 * 8 + j)
                          rw [arr_get (by omega), Atm_at _ _ hjl] at c2
                          have hmk := hm n hnl
                          have hs := mqg_bd hmk hq hnl
                          have hS := sumTo_pos (f := bt m q k j) (B := 18496 * 18496 * 284580) n (fun i hi => bt_bd (hm i (by omega)) hq hlt hjl (by omega))
                          have hp := bt_bd (n := n) (hm n hnl) hq hlt hjl hnl
                          have hp1 := mul_pos_bd (At_bd hi8 hlt) (At_bd hj8 hjl)
                          have ha1 := At_bd hi8 hlt
                          have ha2 := At_bd hj8 hjl
                          have Hs := Lib.hid (show sumTo (bt m q k j) (n + 1) = sumTo (bt m q k j) n + At (n / 8) k * At (n % 8) j * (m n * q * Gk n) from rfl)
                          unfold bt at hp
                          generalize sumTo (bt m q k j) n = S at hS Hs
                          generalize At (n / 8) k = a1 at ha1 hp hp1 Hs c1
                          generalize At (n % 8) j = a2 at ha2 hp hp1 Hs c2
                          rw [← hst0] at hs hp Hs
                          generalize stp m q n = s at hs hp Hs hat
                          have f1 : ∀ w', Cls wr w' → w'.cell? ⟨g3, n / 8 * 8 + k, none⟩ = some (.int .i64 a1) := fun w' h => h.cell c1
                          have f2 : ∀ w', Cls wr w' → w'.cell? ⟨g3, n % 8 * 8 + j, none⟩ = some (.int .i64 a2) := fun w' h => h.cell c2
                          clear hst0
                          go_wp2_with fail
                          refine rgn (Cls wr) (by kernel_rfl) (by kernel_rfl) Cls.refl ?_
                          repeat (first | (refine qU rfl ?_; simp only [Act.put, List.setIfInBounds_toArray, List.set_cons_zero, List.set_cons_succ]) | (refine qW ?_ rfl rfl (fun w hC K hK => ?_) ?_; rotate_left; (focus ((go_wp2_with fail) <;> exact hK _ hC)); simp only [Act.put, List.setIfInBounds_toArray, List.set_cons_zero, List.set_cons_succ]))
                          refine qN ?_
                          intro w' hw'
                          go_wp2_with fail
                          exact ⟨⟨n + 1, by omega, by go_num, congrArg (Value.int IntKind.i64) (by rw [Hs.out]), on.then hw'.only⟩, by simp [intOf]; omega⟩
                        · obtain rfl : n = 64 := by omega
                          have hb0 := hB k j hlt hjl
                          have hM := mx_bd (f := bs m q) (B := 18496 * 18496 * 284580 * 64) (by omega) (8 * k + j) (fun i hi => by
                            have := hB (i / 8) (i % 8) (by omega) (by omega)
                            rwa [at8] at this)
                          have Hx := Lib.hid (show mx (bs m q) (8 * k + (j + 1)) = max (mx (bs m q) (8 * k + j)) (bs m q (8 * k + j)) from rfl)
                          have hbt := bs_at m q k j hjl
                          rw [← hbt]
                          clear hbt
                          generalize bs m q (8 * k + j) = v at hb0 Hx
                          generalize mx (bs m q) (8 * k + j) = M at hM Hx
                          go_wp2_with fail
                          all_goals
                            refine ⟨⟨_, _, _, _, _, _, ⟨j + 1, by omega, ?_, ?_⟩, rfl, rfl, rfl, rfl, rfl, rfl⟩, by simp [intOf]; omega⟩
                            · go_num
                            · exact congrArg (Value.int IntKind.i64) (by rw [Hx.out]; omega)
                    · obtain rfl : j = 8 := by omega
                      go_wp2_with fail
                      exact ⟨⟨k + 1, by omega, by go_num, rfl, oj⟩, by simp [intOf]; omega⟩
                · obtain rfl : k = 8 := by omega
                  have hM := mx_bd (f := bs m q) (B := 18496 * 18496 * 284580 * 64) (by omega) 64 (fun i hi => by
                    have := hB (i / 8) (i % 8) (by omega) (by omega)
                    rwa [at8] at this)
                  rw [show 8 * 8 = 64 from rfl]
                  generalize mx (bs m q) 64 = M at hM HE
                  go_wp2_with fail
                  go_ret
                  exact ⟨congrArg Ending.returned (congrArg (Value.int IntKind.i64) HE.out.symm), ho5.then ok⟩
end Go.Proofs.Ytdcbkmjmakogeaa
