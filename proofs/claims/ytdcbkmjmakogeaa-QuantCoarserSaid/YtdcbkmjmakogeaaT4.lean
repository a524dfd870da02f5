/- The contract of transform.Forward. -/
import Derived.Test.YtdcbkmjmakogeaaTp
import Derived.BigRegion
import Derived.Laws.ResultCell
namespace Go.Proofs.Ytdcbkmjmakogeaa
open Go.RowKit

theorem res2_64 {fn : Func} {p u : Tmp} {w : World} {g : Nat} {x : Nat → Int} (h : fn.results = #[.cell p 30, .tmp u]) {tmps : Array Value} (hb : Blk w g 30 (arr .i64 64 x)) (hp : tmps.getD p undef = .pointer (some ⟨g, 0, none⟩)) :
    (results fn tmps).run Try.prog w = .ok (.tuple #[.agg (arr .i64 64 x), tmps.getD u undef]) w := by
  rw [results_cell_tmp h, hp]
  have := run_loadVar_row (P := Try.prog) w g 30 30 _ (0, 0) _ hb Try.underlying30 rfl (info_of_arr x)
  simp [asAddr, this]
section
variable {ops : Array Oper} {rest : List Oper} {o : Oper} {a : Act} {w : World} {Q : Exit → Act → World → Prop} {X : Operand}
/-- The zero value of an array, built. -/
theorem bld64 (hgd : o.guard = none) (ho : o.op = .build 30 #[]) (k : wpList Try.prog ops Q rest (a.put o.dst (.agg (arr .i64 64 fun _ => 0))) w) : wpList Try.prog ops Q (o :: rest) a w :=
  have hb : Try.prog.built 30 [] = some (arr .i64 64 fun _ => 0) := by kernel_rfl
  wpList_build hgd _ #[] ho (by simp [hb]) (by simpa [hb] using k)
end

theorem size_int (w : World) : (sizeOf 3).run Try.prog w = .ok 1 w := by
  have h : (Try.prog.info? 3).map (·.size) = some 1 := by kernel_rfl
  cases hq : Try.prog.info? 3 with
  | none => simp [hq] at h
  | some i =>
    have hs : i.size = 1 := by simpa [hq] using h
    simp [sizeOf, typeInfo, hq, hs]
theorem idx64 (x : Nat → Int) (k : Nat) (hk : k < 64) (w : World) : (Instr.index 30 (.agg (arr .i64 64 x)) (.int .i64 (k : Int))).run Try.prog w = .ok (.int .i64 (x k)) w :=
  run_index_arr w _ _ _ _ _ Try.underlying30 Try.underlying3 size_int _ _ hk
theorem two_new {w2 : World} (Y : Nat → Int) (w3 : World) (h : w3 = ((w2.alloc (Obj.cells (arr .i64 64 fun _ => 0) 49)).setRow w2.heap.size (arr .i64 64 Tm)).alloc (Obj.cells (arr .i64 64 fun _ => 0) 30)) :
    Only [] w2 w3 ∧ Blk w3 w2.heap.size 49 (arr .i64 64 Tm) ∧ Blk w3 (w2.heap.size + 1) 30 (arr .i64 64 (upto 0 Y)) ∧ w2.heap.size + 2 ≤ w3.heap.size := by
  subst h
  refine ⟨(((Only.refl _ _).alloc _).setRow (.inr (Nat.le_refl _)) _).alloc _, Blk.alloc (Blk.row (Blk.new _ _ _) _) _, ?_, by simp⟩
  have := Blk.new ((w2.alloc (Obj.cells (arr .i64 64 fun _ => 0) 49)).setRow w2.heap.size (arr .i64 64 Tm)) 30 (arr .i64 64 fun _ => 0)
  rw [arr_upto_zero]
  simpa using this
theorem mulT_bd {i k : Nat} {v B : Int} (hi : i < 8) (hk : k < 8) (hv : -B ≤ v ∧ v ≤ B) : -(12 * B) ≤ T i k * v ∧ T i k * v ≤ 12 * B := mul_bd (T_bd hi hk) hv

set_option maxRecDepth 100000 in
theorem forward_out (w : World) (x : Nat → Int) (hx : I64 64 x) (hi : inside x 255 64 = false) :
    Calls Try.prog 27 #[.agg (arr .i64 64 x)] w fun e w' => e = .returned (.tuple #[.agg (arr .i64 64 fun _ => 0), .int .i64 2]) ∧ Only [] w w' := by
  have HI := Lib.hid hi
  clear hi
  generalize hA : arr .i64 64 x = A
  have HA := Lib.hid hA
  clear hA
  go_enter Try.func27, Try.ntmps27
  have hb0 : Blk ((w.alloc (Obj.cells A 30)).alloc (Obj.cells (arr .i64 64 fun _ => 0) 30)) w.heap.size 30 (arr .i64 64 x) := by rw [HA.out]; exact (Blk.new _ _ _).alloc _
  go_wp2_with (refine ld64 (x := x) (g := w.heap.size) hb0 rfl rfl rfl ?_)
  clear hb0
  refine at_world (Φ := fun w1 => Only [] w w1 ∧ w.heap.size + 2 ≤ w1.heap.size ∧ Blk w1 w.heap.size 30 (arr .i64 64 x) ∧ Blk w1 (w.heap.size + 1) 30 (arr .i64 64 fun _ => 0))
    ⟨((Only.refl _ _).alloc _).alloc _, by simp, by rw [HA.out]; exact (Blk.new _ _ _).alloc _, by exact Blk.new2 w 30 _ (arr .i64 64 fun _ => 0)⟩ ?_
  rintro w1 ⟨ho1, hs1, hb0, hb1⟩
  have hg1 : w.heap.size < w.heap.size + 1 := Nat.lt_succ_self _
  have hg2 : w.heap.size + 1 < w.heap.size + 2 := Nat.lt_succ_self _
  have hg0 : w.heap.size ≤ w.heap.size := Nat.le_refl _
  generalize w.heap.size + 2 = g2 at hs1 hg2
  generalize w.heap.size + 1 = g1 at hb1 hg1 hg2
  generalize hg : w.heap.size = g0 at hb0 hg0 hg1 hg2
  have HG := Lib.hid hg
  clear hg
  go_loop [18] (fun i => ∃ k : Nat, k ≤ 64 ∧ i = .int .i64 k ∧ inside x 255 k = true) (fun i => 64 - (intOf i).toNat)
  case atStart => exact ⟨0, by omega, rfl, rfl⟩
  case round =>
    obtain ⟨k, hk, rfl, hin⟩ := hrel
    have Hin := Lib.hid hin
    clear hin
    by_cases hlt : k < 64
    · have hd : decide ((k : Int) < 64) = true := by simp; omega
      have hxk := hx k hlt
      have hat := idx64 x k hlt
      by_cases h1 : x k < -255
      · have d1 : decide (x k < -255) = true := by simpa using h1
        go_wp2_with (first | refine bld64 rfl rfl ?_ | refine st64 hb1 rfl rfl rfl rfl ?_)
        exact bodyPost_ret (res2_64 rfl (hb1.row _) rfl) rfl ⟨rfl, ho1.setRow (.inr (by have := HG.out; omega)) _⟩
      · have d1 : decide (x k < -255) = false := by simpa using h1
        by_cases h2 : 255 < x k
        · have d2 : decide (255 < x k) = true := by simpa using h2
          go_wp2_with (first | refine bld64 rfl rfl ?_ | refine st64 hb1 rfl rfl rfl rfl ?_)
          exact bodyPost_ret (res2_64 rfl (hb1.row _) rfl) rfl ⟨rfl, ho1.setRow (.inr (by have := HG.out; omega)) _⟩
        · have d2 : decide (255 < x k) = false := by simpa using h2
          go_wp2_with fail
          go_round
          case rel => exact ⟨k + 1, by omega, by go_num, inside_succ Hin.out (by omega)⟩
          case measure => simp [intOf]; omega
    · obtain rfl : k = 64 := by omega
      exact absurd Hin.out (by rw [HI.out]; simp)

set_option maxRecDepth 100000 in
theorem forward_in (w : World) (x : Nat → Int) (hx : I64 64 x) (hi : inside x 255 64 = true) :
    Calls Try.prog 27 #[.agg (arr .i64 64 x)] w fun e w' => e = .returned (.tuple #[.agg (arr .i64 64 (fw x)), .int .i64 0]) ∧ Only [] w w' := by
  have HI := Lib.hid hi
  clear hi
  generalize hA : arr .i64 64 x = A
  have HA := Lib.hid hA
  clear hA
  go_enter Try.func27, Try.ntmps27
  have hb0 : Blk ((w.alloc (Obj.cells A 30)).alloc (Obj.cells (arr .i64 64 fun _ => 0) 30)) w.heap.size 30 (arr .i64 64 x) := by rw [HA.out]; exact (Blk.new _ _ _).alloc _
  go_wp2_with (refine ld64 (x := x) (g := w.heap.size) hb0 rfl rfl rfl ?_)
  clear hb0
  refine at_world (Φ := fun w1 => Only [] w w1 ∧ w.heap.size + 2 ≤ w1.heap.size ∧ Blk w1 w.heap.size 30 (arr .i64 64 x) ∧ Blk w1 (w.heap.size + 1) 30 (arr .i64 64 fun _ => 0))
    ⟨((Only.refl _ _).alloc _).alloc _, by simp, by rw [HA.out]; exact (Blk.new _ _ _).alloc _, by exact Blk.new2 w 30 _ (arr .i64 64 fun _ => 0)⟩ ?_
  rintro w1 ⟨ho1, hs1, hb0, hb1⟩
  have hg1 : w.heap.size < w.heap.size + 1 := Nat.lt_succ_self _
  have hg2 : w.heap.size + 1 < w.heap.size + 2 := Nat.lt_succ_self _
  have hg0 : w.heap.size ≤ w.heap.size := Nat.le_refl _
  generalize w.heap.size + 2 = g2 at hs1 hg2
  generalize w.heap.size + 1 = g1 at hb1 hg1 hg2
  generalize hg : w.heap.size = g0 at hb0 hg0 hg1 hg2
  have HG := Lib.hid hg
  clear hg
  go_loop [18] (fun i => ∃ k : Nat, k ≤ 64 ∧ i = .int .i64 k ∧ inside x 255 k = true) (fun i => 64 - (intOf i).toNat)
  case atStart => exact ⟨0, by omega, rfl, rfl⟩
  case round =>
    obtain ⟨k, hk, rfl, hin⟩ := hrel
    have Hin := Lib.hid hin
    clear hin
    by_cases hlt : k < 64
    · have hd : decide ((k : Int) < 64) = true := by simp; omega
      have hxk := hx k hlt
      have hat := idx64 x k hlt
      by_cases h1 : x k < -255
      · have d1 : decide (x k < -255) = true := by simpa using h1
        exact absurd (HI.out) (by rw [inside_false (x := x) (m := 255) hlt (by omega)]; simp)
      · have d1 : decide (x k < -255) = false := by simpa using h1
        by_cases h2 : 255 < x k
        · have d2 : decide (255 < x k) = true := by simpa using h2
          exact absurd (HI.out) (by rw [inside_false (x := x) (m := 255) hlt (by omega)]; simp)
        · have d2 : decide (255 < x k) = false := by simpa using h2
          go_wp2_with fail
          go_round
          case rel => exact ⟨k + 1, by omega, by go_num, inside_succ Hin.out (by omega)⟩
          case measure => simp [intOf]; omega
    · obtain rfl : k = 64 := by omega
      have hB : Bd x 255 := inside_true.1 Hin.out
      have hR := rowF_bd hB
      go_wp2_with fail
      refine (matrix_any _).mono ?_
      rintro e w2 ⟨rfl, o2⟩
      have hb0' := hb0.only o2 (by simp)
      have hb1' := hb1.only o2 (by simp)
      have ho2 := ho1.then o2
      have hs2 := o2.size
      clear hb0 hb1 ho1 o2
      go_wp2_with (refine st37 (x := fun _ => 0) (g := w2.heap.size) (Blk.new _ _ _) rfl rfl rfl rfl ?_)
      refine at_world (Φ := fun w3 => Only [] w2 w3 ∧ Blk w3 w2.heap.size 49 (arr .i64 64 Tm) ∧ Blk w3 (w2.heap.size + 1) 30 (arr .i64 64 (upto 0 (rowF x))) ∧ w2.heap.size + 2 ≤ w3.heap.size) (two_new (rowF x) _ rfl) ?_
      rintro w3 ⟨o3, hbm, hbr, hs3⟩
      have hb0 := hb0'.only o3 (by simp)
      have hb1 := hb1'.only o3 (by simp)
      have ho3 := ho2.then o3
      have hl1 := hb1'.lt
      have hgr : w2.heap.size < w2.heap.size + 1 := Nat.lt_succ_self _
      clear hb0' hb1' o3
      generalize w2.heap.size + 1 = gr at hbr hgr
      generalize w2.heap.size = gm at hbm hgr hl1 hs2
      go_loopw [30] (fun i wr => ∃ k : Nat, k ≤ 8 ∧ i = .int .i64 k ∧ Only [] w wr ∧ Only [gr] w3 wr ∧ Blk wr gr 30 (arr .i64 64 (upto (8 * k) (rowF x)))) (fun i _ => 8 - (intOf i).toNat)
      case atStart => exact ⟨0, by omega, rfl, ho3, Only.refl _ _, hbr⟩
      case round =>
        obtain ⟨k, hk, rfl, ho, hoo, hb⟩ := hrel
        by_cases hlt : k < 8
        · have hd : decide ((k : Int) < 8) = true := by simp; omega
          obtain ⟨wa, rfl⟩ : ∃ wa, wa = wr := ⟨_, rfl⟩
          go_wp2_with fail
          go_loopw [33] (fun i wr => ∃ j : Nat, j ≤ 8 ∧ i = .int .i64 j ∧ Only [] w wr ∧ Only [gr] w3 wr ∧ Blk wr gr 30 (arr .i64 64 (upto (8 * k + j) (rowF x)))) (fun i _ => 8 - (intOf i).toNat)
          case atStart => exact ⟨0, by omega, rfl, ho, hoo, hb⟩
          case round =>
            obtain ⟨j, hj, rfl, ho', hoo', hb'⟩ := hrel
            by_cases hjl : j < 8
            · have hdj : decide ((j : Int) < 8) = true := by simp; omega
              obtain ⟨wb, rfl⟩ : ∃ wb, wb = wr := ⟨_, rfl⟩
              go_wp2_with fail
              go_loopw [10, 36] (fun s i wr => ∃ l : Nat, l ≤ 8 ∧ i = .int .i64 l ∧ s = .int .i64 (sumTo (fun l => T j l * x (8 * k + l)) l) ∧ Only [] wb wr) (fun _ i _ => 8 - (intOf i).toNat)
              case atStart => exact ⟨0, by omega, rfl, rfl, Only.refl _ _⟩
              case round =>
                obtain ⟨l, hl, rfl, rfl, ol⟩ := hrel
                by_cases hll : l < 8
                · have hdl : decide ((l : Int) < 8) = true := by simp; omega
                  have c1 := ((hbm.only hoo' (by simp; omega)).only ol (by simp)).cell (j * 8 + l)
                  rw [arr_get (by omega), Tm_at j l hll] at c1
                  have c2 := ((hb0.only hoo' (by simp; omega)).only ol (by simp)).cell (8 * k + l)
                  rw [arr_get (by omega)] at c2
                  have Hs := Lib.hid (wsum (f := fun l => T j l * x (8 * k + l)) hll (B := (12 * 255)) (by omega) (fun l hl => mulT_bd hjl hl (hB _ (by omega))))
                  go_wp2_with fail
                  go_region
                  all_goals go_wp2_with fail
                  exact ⟨⟨l + 1, by omega, by go_num, congrArg (Value.int IntKind.i64) Hs.out, ol.drew⟩, by simp [intOf]; omega⟩
                · obtain rfl : l = 8 := by omega
                  have hbd : -((12 * 255) * 8) ≤ sumTo (fun l => T j l * x (8 * k + l)) 8 ∧ sumTo (fun l => T j l * x (8 * k + l)) 8 ≤ (12 * 255) * 8 := sumTo_bd 8 (fun l hl => mulT_bd hjl hl (hB _ (by omega)))
                  have hb2 := hb'.only ol (by simp)
                  have hv : (rowF x) (8 * k + j) = sumTo (fun l => T j l * x (8 * k + l)) 8 := rowF_at x k j hjl
                  have Hv := Lib.hid hv
                  clear hv
                  generalize sumTo (fun l => T j l * x (8 * k + l)) 8 = S at hbd Hv
                  have hcg := hb2.cell (8 * k + j)
                  rw [arr_get (by omega)] at hcg
                  have hfz := hb2.frozen (8 * k + j)
                  have On := Lib.hid ((ho'.then ol).setCell (p := ⟨gr, 8 * k + j, none⟩) (.inr (by have := HG.out; show _ ≤ gr; omega)) (.int .i64 S))
                  have Onn := Lib.hid ((hoo'.then ol).setCell (p := ⟨gr, 8 * k + j, none⟩) (.inl (by simp)) (.int .i64 S))
                  have Hb := Lib.hid (show Blk (wr.setCell ⟨gr, 8 * k + j, none⟩ (.int .i64 S)) gr 30 (arr .i64 64 (upto (8 * k + j + 1) (rowF x))) from by have := hb2.set_ (8 * k + j) (.int .i64 S); rwa [arr_set_upto (by omega) Hv.out] at this)
                  go_wp2_with fail
                  exact ⟨⟨j + 1, by omega, by go_num, On.out, Onn.out, Hb.out⟩, by simp [intOf]; omega⟩
            · obtain rfl : j = 8 := by omega
              have Hb := Lib.hid (show Blk wr gr 30 (arr .i64 64 (upto (8 * (k + 1)) (rowF x))) from by rw [show 8 * (k + 1) = 8 * k + 8 by omega]; exact hb')
              go_wp2_with fail
              exact ⟨⟨k + 1, by omega, by go_num, ho', hoo', Hb.out⟩, by simp [intOf]; omega⟩
        · obtain rfl : k = 8 := by omega
          rw [arr_upto_all (by omega)] at hb
          have hm4 := hbm.only hoo (by simp; omega)
          have h14 := hb1.only hoo (by simp; omega)
          clear hb0 hb1 hbm hbr hoo
          go_wp2_with fail
          refine at_world (Φ := fun w4 => Only [] wr w4 ∧ Blk w4 wr.heap.size 30 (arr .i64 64 (upto 0 (fw x)))) ⟨(Only.refl _ _).alloc _, by rw [arr_upto_zero]; exact Blk.new _ _ _⟩ ?_
          rintro w4 ⟨o4, hby⟩
          have hoy := ho.then o4
          have hlr := hb.lt
          have hr4 := hb.only o4 (by simp)
          have hm4 := hm4.only o4 (by simp)
          have h14 := h14.only o4 (by simp)
          clear hb o4 ho
          generalize wr.heap.size = gy at hby hlr
          go_loopw [62] (fun i wr => ∃ k : Nat, k ≤ 8 ∧ i = .int .i64 k ∧ Only [] w wr ∧ Only [gy] w4 wr ∧ Blk wr gy 30 (arr .i64 64 (upto (8 * k) (fw x)))) (fun i _ => 8 - (intOf i).toNat)
          case atStart => exact ⟨0, by omega, rfl, hoy, Only.refl _ _, hby⟩
          case round =>
            obtain ⟨k, hk, rfl, ho, hoo, hb⟩ := hrel
            by_cases hlt : k < 8
            · have hd : decide ((k : Int) < 8) = true := by simp; omega
              obtain ⟨wa, rfl⟩ : ∃ wa, wa = wr := ⟨_, rfl⟩
              go_wp2_with fail
              go_loopw [65] (fun i wr => ∃ j : Nat, j ≤ 8 ∧ i = .int .i64 j ∧ Only [] w wr ∧ Only [gy] w4 wr ∧ Blk wr gy 30 (arr .i64 64 (upto (8 * k + j) (fw x)))) (fun i _ => 8 - (intOf i).toNat)
              case atStart => exact ⟨0, by omega, rfl, ho, hoo, hb⟩
              case round =>
                obtain ⟨j, hj, rfl, ho', hoo', hb'⟩ := hrel
                by_cases hjl : j < 8
                · have hdj : decide ((j : Int) < 8) = true := by simp; omega
                  obtain ⟨wb, rfl⟩ : ∃ wb, wb = wr := ⟨_, rfl⟩
                  go_wp2_with fail
                  go_loopw [15, 68] (fun s i wr => ∃ l : Nat, l ≤ 8 ∧ i = .int .i64 l ∧ s = .int .i64 (sumTo (fun l => T k l * rowF x (8 * l + j)) l) ∧ Only [] wb wr) (fun _ i _ => 8 - (intOf i).toNat)
                  case atStart => exact ⟨0, by omega, rfl, rfl, Only.refl _ _⟩
                  case round =>
                    obtain ⟨l, hl, rfl, rfl, ol⟩ := hrel
                    by_cases hll : l < 8
                    · have hdl : decide ((l : Int) < 8) = true := by simp; omega
                      have c1 := ((hm4.only hoo' (by simp; omega)).only ol (by simp)).cell (k * 8 + l)
                      rw [arr_get (by omega), Tm_at k l hll] at c1
                      have c2 := ((hr4.only hoo' (by simp; omega)).only ol (by simp)).cell (8 * l + j)
                      rw [arr_get (by omega)] at c2
                      have Hs := Lib.hid (wsum (f := fun l => T k l * rowF x (8 * l + j)) hll (B := (12 * 24480)) (by omega) (fun l hl => mulT_bd hlt hl (hR _ (by omega))))
                      go_wp2_with fail
                      go_region
                      all_goals go_wp2_with fail
                      exact ⟨⟨l + 1, by omega, by go_num, congrArg (Value.int IntKind.i64) Hs.out, ol.drew⟩, by simp [intOf]; omega⟩
                    · obtain rfl : l = 8 := by omega
                      have hbd : -((12 * 24480) * 8) ≤ sumTo (fun l => T k l * rowF x (8 * l + j)) 8 ∧ sumTo (fun l => T k l * rowF x (8 * l + j)) 8 ≤ (12 * 24480) * 8 := sumTo_bd 8 (fun l hl => mulT_bd hlt hl (hR _ (by omega)))
                      have hb2 := hb'.only ol (by simp)
                      have hv : (fw x) (8 * k + j) = sumTo (fun l => T k l * rowF x (8 * l + j)) 8 := fw_at x k j hjl
                      have Hv := Lib.hid hv
                      clear hv
                      generalize sumTo (fun l => T k l * rowF x (8 * l + j)) 8 = S at hbd Hv
                      have hcg := hb2.cell (8 * k + j)
                      rw [arr_get (by omega)] at hcg
                      have hfz := hb2.frozen (8 * k + j)
                      have On := Lib.hid ((ho'.then ol).setCell (p := ⟨gy, 8 * k + j, none⟩) (.inr (by have := HG.out; show _ ≤ gy; omega)) (.int .i64 S))
                      have Onn := Lib.hid ((hoo'.then ol).setCell (p := ⟨gy, 8 * k + j, none⟩) (.inl (by simp)) (.int .i64 S))
                      have Hb := Lib.hid (show Blk (wr.setCell ⟨gy, 8 * k + j, none⟩ (.int .i64 S)) gy 30 (arr .i64 64 (upto (8 * k + j + 1) (fw x))) from by have := hb2.set_ (8 * k + j) (.int .i64 S); rwa [arr_set_upto (by omega) Hv.out] at this)
                      go_wp2_with fail
                      exact ⟨⟨j + 1, by omega, by go_num, On.out, Onn.out, Hb.out⟩, by simp [intOf]; omega⟩
                · obtain rfl : j = 8 := by omega
                  have Hb := Lib.hid (show Blk wr gy 30 (arr .i64 64 (upto (8 * (k + 1)) (fw x))) from by rw [show 8 * (k + 1) = 8 * k + 8 by omega]; exact hb')
                  go_wp2_with fail
                  exact ⟨⟨k + 1, by omega, by go_num, ho', hoo', Hb.out⟩, by simp [intOf]; omega⟩
            · obtain rfl : k = 8 := by omega
              rw [arr_upto_all (by omega)] at hb
              have h1 := h14.only hoo (by simp; omega)
              go_wp2_with (first | refine ld64 hb rfl rfl rfl ?_ | refine st64 h1 rfl rfl rfl rfl ?_)
              exact bodyPost_ret (res2_64 rfl (h1.row _) rfl) rfl ⟨rfl, ho.setRow (.inr (by have := HG.out; omega)) _⟩
end Go.Proofs.Ytdcbkmjmakogeaa
