/- The contract of transform.Inverse. -/
import Derived.Test.YtdcbkmjmakogeaaT4
namespace Go.Proofs.Ytdcbkmjmakogeaa
open Go.RowKit

/-- The first m elements of f, behind them those of g. -/
def blend (m : Nat) (f g : Nat → Int) : Nat → Int := fun j => if j < m then f j else g j
theorem arr_blend_zero {k : IntKind} {n : Nat} {f g : Nat → Int} : arr k n (blend 0 f g) = arr k n g := arr_congr (fun j _ => by simp [blend])
theorem arr_blend_all {k : IntKind} {n m : Nat} {f g : Nat → Int} (h : n ≤ m) : arr k n (blend m f g) = arr k n f := arr_congr (fun j hj => by unfold blend; rw [if_pos (by omega)])
theorem arr_set_blend {k : IntKind} {n m : Nat} {f g : Nat → Int} {v : Int} (h : m < n) (hv : f m = v) : (arr k n (blend m f g)).setIfInBounds m (.int k v) = arr k n (blend (m + 1) f g) := by
  rw [arr_set v h]
  apply arr_congr
  intro j _
  unfold upd blend
  by_cases h1 : j = m
  · subst h1; simp [hv]
  · rw [if_neg h1]
    by_cases h2 : j < m
    · rw [if_pos h2, if_pos (by omega)]
    · rw [if_neg h2, if_neg (by omega)]
theorem blend_at {m : Nat} {f g : Nat → Int} : blend m f g m = g m := by simp [blend]
/-- The matrix, each row multiplied by its M. -/
def TMm (n : Nat) : Int := T (n / 8) (n % 8) * Mm (n / 8)
theorem TMm_at (i k : Nat) (hk : k < 8) : TMm (i * 8 + k) = T i k * Mm i := by
  unfold TMm
  rw [show (i * 8 + k) / 8 = i by omega, show (i * 8 + k) % 8 = k by omega]
theorem quoM : ∀ i : Fin 8, Int.tdiv 739840 (Nm i.val) = Mm i.val ∧ 0 < Nm i.val ∧ Nm i.val ≤ 578 ∧ 0 ≤ Mm i.val ∧ Mm i.val ≤ 2312 := by decide +kernel
theorem cl_if (v : Int) : cl v = if 2097152 < (if v < -2097152 then -2097152 else v) then 2097152 else if v < -2097152 then -2097152 else v := by
  unfold cl
  split <;> split <;> omega
theorem idx8 (x : Nat → Int) (k : Nat) (hk : k < 8) (w : World) : (Instr.index 48 (.agg (arr .i64 8 x)) (.int .i64 (k : Int))).run Try.prog w = .ok (.int .i64 (x k)) w :=
  run_index_arr w _ _ _ _ _ Try.underlying48 Try.underlying3 size_int _ _ hk

set_option maxRecDepth 100000 in
theorem inverse_any (w : World) (y : Nat → Int) (hy : I64 64 y) :
    Calls Try.prog 28 #[.agg (arr .i64 64 y)] w fun e w' => e = .returned (.agg (arr .i64 64 (inv y))) ∧ Only [] w w' := by
  generalize hA : arr .i64 64 y = A
  have HA := Lib.hid hA
  clear hA
  go_enter Try.func28, Try.ntmps28
  go_wp2_with fail
  refine (matrix_any _).mono ?_
  rintro e w2 ⟨rfl, o2⟩
  obtain ⟨ho2, hs1, hb0, hb1⟩ : Only [] w w2 ∧ w.heap.size + 2 ≤ w2.heap.size ∧ Blk w2 w.heap.size 30 (arr .i64 64 y) ∧ Blk w2 (w.heap.size + 1) 30 (arr .i64 64 fun _ => 0) := by
    refine ⟨(((Only.refl _ _).alloc _).alloc _).then o2, ?_, ?_, ?_⟩
    · have := o2.size; simpa using this
    · rw [HA.out]; exact ((Blk.new _ _ _).alloc _).only o2 (by simp)
    · exact (Blk.new2 w 30 _ (arr .i64 64 fun _ => 0)).only o2 (by simp)
  have hg1 : w.heap.size < w.heap.size + 1 := Nat.lt_succ_self _
  have hg2 : w.heap.size + 1 < w.heap.size + 2 := Nat.lt_succ_self _
  have hg0 : w.heap.size ≤ w.heap.size := Nat.le_refl _
  clear o2
  generalize w.heap.size + 2 = g2 at hs1 hg2
  generalize w.heap.size + 1 = g1 at hb1 hg1 hg2
  generalize hg : w.heap.size = g0 at hb0 hg0 hg1 hg2
  have HG := Lib.hid hg
  clear hg
  go_wp2_with (first | refine st37 (x := fun _ => 0) (g := w2.heap.size) (Blk.new _ _ _) rfl rfl rfl rfl ?_ | (go_at_call 40; refine (norms_any _).mono ?_; rintro e w3 ⟨rfl, o3⟩))
  obtain ⟨ho3, hbm, hs3, hb0, hb1⟩ : Only [] w w3 ∧ Blk w3 w2.heap.size 49 (arr .i64 64 (blend (8 * 0) TMm Tm)) ∧ w2.heap.size < w3.heap.size ∧ Blk w3 g0 30 (arr .i64 64 y) ∧ Blk w3 g1 30 (arr .i64 64 fun _ => 0) := by
    have oa := ((Only.refl [] w2).alloc (Obj.cells (arr .i64 64 fun _ => 0) 49)).setRow (.inr (Nat.le_refl _)) (arr .i64 64 Tm)
    refine ⟨(ho2.then oa).then o3, ?_, ?_, (hb0.only oa (by simp)).only o3 (by simp), (hb1.only oa (by simp)).only o3 (by simp)⟩
    · rw [arr_blend_zero]; exact Blk.only (Blk.row (Blk.new _ _ _) _) o3 (by simp)
    · have := o3.size; simp at this; omega
  have hgm : g1 < w2.heap.size := by omega
  clear o3 hs1 ho2 hg2
  generalize w2.heap.size = gm at hbm hs3 hgm
  go_loopw [19] (fun i wr => ∃ k : Nat, k ≤ 8 ∧ i = .int .i64 k ∧ Only [] w wr ∧ Only [gm] w3 wr ∧ Blk wr gm 49 (arr .i64 64 (blend (8 * k) TMm Tm))) (fun i _ => 8 - (intOf i).toNat)
  case atStart => exact ⟨0, by omega, rfl, ho3, Only.refl _ _, hbm⟩
  case round =>
    obtain ⟨k, hk, rfl, ho, hoo, hb⟩ := hrel
    by_cases hlt : k < 8
    · have hd : decide ((k : Int) < 8) = true := by simp; omega
      have hix := idx8 Nm k hlt
      obtain ⟨wa, rfl⟩ : ∃ wa, wa = wr := ⟨_, rfl⟩
      go_wp2_with fail
      go_loopw [23] (fun i wr => ∃ j : Nat, j ≤ 8 ∧ i = .int .i64 j ∧ Only [] w wr ∧ Only [gm] w3 wr ∧ Blk wr gm 49 (arr .i64 64 (blend (8 * k + j) TMm Tm))) (fun i _ => 8 - (intOf i).toNat)
      case atStart => exact ⟨0, by omega, rfl, ho, hoo, hb⟩
      case round =>
        obtain ⟨j, hj, rfl, ho', hoo', hb'⟩ := hrel
        by_cases hjl : j < 8
        · have hdj : decide ((j : Int) < 8) = true := by simp; omega
          obtain ⟨q1, q2, q3, q4, q5⟩ := quoM ⟨k, hlt⟩
          simp only at q1 q2 q3 q4 q5
          have c1 := hb'.cell (k * 8 + j)
          rw [show k * 8 + j = 8 * k + j by omega, arr_get (by omega), blend_at, show 8 * k + j = k * 8 + j by omega, Tm_at k j hjl] at c1
          have hfz := hb'.frozen (k * 8 + j)
          have hTM := TM_bd hlt hjl
          have hne : (Nm k == 0) = false := by simp; omega
          go_wp2_with fail
          go_region
          all_goals go_wp2_with fail
          have e8 : k * 8 + j = 8 * k + j := by omega
          have On := ho'.setCell (p := ⟨gm, k * 8 + j, none⟩) (.inr (by have := HG.out; show _ ≤ gm; omega)) (.int .i64 (T k j * Mm k))
          have Onn := hoo'.setCell (p := ⟨gm, k * 8 + j, none⟩) (.inl (by simp)) (.int .i64 (T k j * Mm k))
          have Hb : Blk (wr.setCell ⟨gm, k * 8 + j, none⟩ (.int .i64 (T k j * Mm k))) gm 49 (arr .i64 64 (blend (8 * k + (j + 1)) TMm Tm)) := by
            have := hb'.set_ (8 * k + j) (.int .i64 (T k j * Mm k))
            rw [arr_set_blend (by omega) (by rw [← e8, TMm_at k j hjl])] at this
            rw [e8]
            exact this
          exact ⟨⟨j + 1, by omega, by go_num, On.drew, Onn.drew, Hb.drew⟩, by simp [intOf]; omega⟩
        · obtain rfl : j = 8 := by omega
          have Hb := Lib.hid (show Blk wr gm 49 (arr .i64 64 (blend (8 * (k + 1)) TMm Tm)) from by rw [show 8 * (k + 1) = 8 * k + 8 by omega]; exact hb')
          go_wp2_with fail
          exact ⟨⟨k + 1, by omega, by go_num, ho', hoo', Hb.out⟩, by simp [intOf]; omega⟩
    · obtain rfl : k = 8 := by omega
      rw [arr_blend_all (by omega)] at hb
      have hb03 := hb0.only hoo (by simp; omega)
      have hb13 := hb1.only hoo (by simp; omega)
      clear hb0 hb1 hbm hoo ho3
      go_wp2_with fail
      refine at_world (Φ := fun w4 => Only [] wr w4 ∧ Blk w4 wr.heap.size 47 (arr .i64 64 (upto 0 (rowI y)))) ⟨(Only.refl _ _).alloc _, by rw [arr_upto_zero]; exact Blk.new _ _ _⟩ ?_
      rintro w4 ⟨o4, hbr⟩
      have hor := ho.then o4
      have hlm := hb.lt
      have hmm := hb.only o4 (by simp)
      have hb04 := hb03.only o4 (by simp)
      have hb14 := hb13.only o4 (by simp)
      clear hb hb03 hb13 o4 ho
      generalize wr.heap.size = gr at hbr hlm
      go_loopw [38] (fun i wr => ∃ k : Nat, k ≤ 8 ∧ i = .int .i64 k ∧ Only [] w wr ∧ Only [gr] w4 wr ∧ Blk wr gr 47 (arr .i64 64 (upto (8 * k) (rowI y)))) (fun i _ => 8 - (intOf i).toNat)
      case atStart => exact ⟨0, by omega, rfl, hor, Only.refl _ _, hbr⟩
      case round =>
        obtain ⟨k, hk, rfl, ho, hoo, hb⟩ := hrel
        by_cases hlt : k < 8
        · have hd : decide ((k : Int) < 8) = true := by simp; omega
          obtain ⟨wa, rfl⟩ : ∃ wa, wa = wr := ⟨_, rfl⟩
          go_wp2_with fail
          go_loopw [41] (fun i wr => ∃ j : Nat, j ≤ 8 ∧ i = .int .i64 j ∧ Only [] w wr ∧ Only [gr] w4 wr ∧ Blk wr gr 47 (arr .i64 64 (upto (8 * k + j) (rowI y)))) (fun i _ => 8 - (intOf i).toNat)
          case atStart => exact ⟨0, by omega, rfl, ho, hoo, hb⟩
          case round =>
            obtain ⟨j, hj, rfl, ho', hoo', hb'⟩ := hrel
            by_cases hjl : j < 8
            · have hdj : decide ((j : Int) < 8) = true := by simp; omega
              obtain ⟨wb, rfl⟩ : ∃ wb, wb = wr := ⟨_, rfl⟩
              go_wp2_with fail
              go_loopw [10, 44] (fun s i wr => ∃ l : Nat, l ≤ 8 ∧ i = .int .i64 l ∧ s = .int .i64 (sumTo (fun l => T l j * Mm l * cl (y (8 * k + l))) l) ∧ Only [] wb wr) (fun _ i _ => 8 - (intOf i).toNat)
              case atStart => exact ⟨0, by omega, rfl, rfl, Only.refl _ _⟩
              case round =>
                obtain ⟨l, hl, rfl, rfl, ol⟩ := hrel
                by_cases hll : l < 8
                · have hdl : decide ((l : Int) < 8) = true := by simp; omega
                  have c1 := ((hmm.only hoo' (by simp; omega)).only ol (by simp)).cell (l * 8 + j)
                  rw [arr_get (by omega), TMm_at l j hjl] at c1
                  have c2 := ((hb04.only hoo' (by simp; omega)).only ol (by simp)).cell (8 * k + l)
                  rw [arr_get (by omega)] at c2
                  have Hs := Lib.hid (wsum (f := fun l => T l j * Mm l * cl (y (8 * k + l))) hll (B := (18496 * 2097152)) (by omega) (fun l hl => mul_bd (TM_bd hl hjl) (cl_bd _)))
                  have hyb := hy (8 * k + l) (by omega)
                  have hcl := cl_if (y (8 * k + l))
                  have Hcl := Lib.hid hcl
                  clear hcl
                  go_wp2_with fail
                  go_region
                  all_goals go_wp2_with fail
                  rw [← Hcl.out]
                  exact ⟨⟨l + 1, by omega, by go_num, congrArg (Value.int IntKind.i64) Hs.out, ol.drew⟩, by simp [intOf]; omega⟩
                · obtain rfl : l = 8 := by omega
                  have hbd : -((18496 * 2097152) * 8) ≤ sumTo (fun l => T l j * Mm l * cl (y (8 * k + l))) 8 ∧ sumTo (fun l => T l j * Mm l * cl (y (8 * k + l))) 8 ≤ (18496 * 2097152) * 8 := sumTo_bd 8 (fun l hl => mul_bd (TM_bd hl hjl) (cl_bd _))
                  have hb2 := hb'.only ol (by simp)
                  have hv := rowI_at y k j hjl
                  have Hv := Lib.hid hv
                  clear hv
                  generalize sumTo (fun l => T l j * Mm l * cl (y (8 * k + l))) 8 = S at hbd Hv
                  have hcg := hb2.cell (8 * k + j)
                  rw [arr_get (by omega)] at hcg
                  have hfz := hb2.frozen (8 * k + j)
                  have On := Lib.hid ((ho'.then ol).setCell (p := ⟨gr, 8 * k + j, none⟩) (.inr (by have := HG.out; show _ ≤ gr; omega)) (.int .i64 S))
                  have Onn := Lib.hid ((hoo'.then ol).setCell (p := ⟨gr, 8 * k + j, none⟩) (.inl (by simp)) (.int .i64 S))
                  have Hb := Lib.hid (show Blk (wr.setCell ⟨gr, 8 * k + j, none⟩ (.int .i64 S)) gr 47 (arr .i64 64 (upto (8 * k + j + 1) (rowI y))) from by have := hb2.set_ (8 * k + j) (.int .i64 S); rwa [arr_set_upto (by omega) Hv.out] at this)
                  go_wp2_with fail
                  exact ⟨⟨j + 1, by omega, by go_num, On.out, Onn.out, Hb.out⟩, by simp [intOf]; omega⟩
            · obtain rfl : j = 8 := by omega
              have Hb := Lib.hid (show Blk wr gr 47 (arr .i64 64 (upto (8 * (k + 1)) (rowI y))) from by rw [show 8 * (k + 1) = 8 * k + 8 by omega]; exact hb')
              go_wp2_with fail
              exact ⟨⟨k + 1, by omega, by go_num, ho', hoo', Hb.out⟩, by simp [intOf]; omega⟩
        · obtain rfl : k = 8 := by omega
          rw [arr_upto_all (by omega)] at hb
          have hm4 := hmm.only hoo (by simp; omega)
          have h14 := hb14.only hoo (by simp; omega)
          clear hoo hb04 hb14 hmm hbr
          go_wp2_with fail
          refine at_world (Φ := fun w5 => Only [] wr w5 ∧ Blk w5 wr.heap.size 30 (arr .i64 64 (upto 0 (inv y)))) ⟨(Only.refl _ _).alloc _, by rw [arr_upto_zero]; exact Blk.new _ _ _⟩ ?_
          rintro w5 ⟨o5, hby⟩
          have hoy := ho.then o5
          have hlr := hb.lt
          have hr4 := hb.only o5 (by simp)
          have hm4 := hm4.only o5 (by simp)
          have h14 := h14.only o5 (by simp)
          clear hb o5 ho
          generalize wr.heap.size = gx at hby hlr
          go_loopw [72] (fun i wr => ∃ k : Nat, k ≤ 8 ∧ i = .int .i64 k ∧ Only [] w wr ∧ Only [gx] w5 wr ∧ Blk wr gx 30 (arr .i64 64 (upto (8 * k) (inv y)))) (fun i _ => 8 - (intOf i).toNat)
          case atStart => exact ⟨0, by omega, rfl, hoy, Only.refl _ _, hby⟩
          case round =>
            obtain ⟨k, hk, rfl, ho, hoo, hb⟩ := hrel
            by_cases hlt : k < 8
            · have hd : decide ((k : Int) < 8) = true := by simp; omega
              obtain ⟨wa, rfl⟩ : ∃ wa, wa = wr := ⟨_, rfl⟩
              go_wp2_with fail
              go_loopw [75] (fun i wr => ∃ j : Nat, j ≤ 8 ∧ i = .int .i64 j ∧ Only [] w wr ∧ Only [gx] w5 wr ∧ Blk wr gx 30 (arr .i64 64 (upto (8 * k + j) (inv y)))) (fun i _ => 8 - (intOf i).toNat)
              case atStart => exact ⟨0, by omega, rfl, ho, hoo, hb⟩
              case round =>
                obtain ⟨j, hj, rfl, ho', hoo', hb'⟩ := hrel
                by_cases hjl : j < 8
                · have hdj : decide ((j : Int) < 8) = true := by simp; omega
                  obtain ⟨wb, rfl⟩ : ∃ wb, wb = wr := ⟨_, rfl⟩
                  go_wp2_with fail
                  go_loopw [15, 78] (fun s i wr => ∃ l : Nat, l ≤ 8 ∧ i = .int .i64 l ∧ s = .int .i64 (sumTo (fun l => T l k * Mm l * rowI y (8 * l + j)) l) ∧ Only [] wb wr) (fun _ i _ => 8 - (intOf i).toNat)
                  case atStart => exact ⟨0, by omega, rfl, rfl, Only.refl _ _⟩
                  case round =>
                    obtain ⟨l, hl, rfl, rfl, ol⟩ := hrel
                    by_cases hll : l < 8
                    · have hdl : decide ((l : Int) < 8) = true := by simp; omega
                      have c1 := ((hm4.only hoo' (by simp; omega)).only ol (by simp)).cell (l * 8 + k)
                      rw [arr_get (by omega), TMm_at l k hlt] at c1
                      have c2 := ((hr4.only hoo' (by simp; omega)).only ol (by simp)).cell (8 * l + j)
                      rw [arr_get (by omega)] at c2
                      have Hs := Lib.hid (wsum (f := fun l => T l k * Mm l * rowI y (8 * l + j)) hll (B := (18496 * 310311387136)) (by omega) (fun l hl => mul_bd (TM_bd hl hlt) (rowI_bd y _ (by omega))))
                      go_wp2_with fail
                      go_region
                      all_goals go_wp2_with fail
                      exact ⟨⟨l + 1, by omega, by go_num, congrArg (Value.int IntKind.i64) Hs.out, ol.drew⟩, by simp [intOf]; omega⟩
                    · obtain rfl : l = 8 := by omega
                      have hbd : -((18496 * 310311387136) * 8) ≤ sumTo (fun l => T l k * Mm l * rowI y (8 * l + j)) 8 ∧ sumTo (fun l => T l k * Mm l * rowI y (8 * l + j)) 8 ≤ (18496 * 310311387136) * 8 := sumTo_bd 8 (fun l hl => mul_bd (TM_bd hl hlt) (rowI_bd y _ (by omega)))
                      have hb2 := hb'.only ol (by simp)
                      have hv := sumI_at y k j hjl
                      have Hv := Lib.hid hv
                      clear hv
                      generalize sumTo (fun l => T l k * Mm l * rowI y (8 * l + j)) 8 = S at hbd Hv
                      have hcg := hb2.cell (8 * k + j)
                      rw [arr_get (by omega)] at hcg
                      have hfz := hb2.frozen (8 * k + j)
                      have hvn : inv y (8 * k + j) = near S := by unfold inv; rw [Hv.out]
                      have Hvn := Lib.hid hvn
                      clear hvn
                      have On := Lib.hid ((ho'.then ol).setCell (p := ⟨gx, 8 * k + j, none⟩) (.inr (by have := HG.out; show _ ≤ gx; omega)) (.int .i64 (near S)))
                      have Onn := Lib.hid ((hoo'.then ol).setCell (p := ⟨gx, 8 * k + j, none⟩) (.inl (by simp)) (.int .i64 (near S)))
                      have Hb := Lib.hid (show Blk (wr.setCell ⟨gx, 8 * k + j, none⟩ (.int .i64 (near S))) gx 30 (arr .i64 64 (upto (8 * k + j + 1) (inv y))) from by have := hb2.set_ (8 * k + j) (.int .i64 (near S)); rwa [arr_set_upto (by omega) Hvn.out] at this)
                      go_wp2_with fail
                      refine (nearest_any _ S (by omega)).mono ?_
                      rintro e w9 ⟨rfl, rfl⟩
                      go_wp2_with fail
                      go_roundw
                      case rel => exact ⟨_, _, _, _, _, _, _, _, _, _, _, _, _, _, _, _, _, _, _, _, _, _, _, _, _, _, _, _, _, _, _, _, ⟨j + 1, by omega, by go_num, On.out, Onn.out, Hb.out⟩, rfl⟩
                      case measure => simp [intOf]; omega
                · obtain rfl : j = 8 := by omega
                  have Hb := Lib.hid (show Blk wr gx 30 (arr .i64 64 (upto (8 * (k + 1)) (inv y))) from by rw [show 8 * (k + 1) = 8 * k + 8 by omega]; exact hb')
                  go_wp2_with fail
                  exact ⟨⟨k + 1, by omega, by go_num, ho', hoo', Hb.out⟩, by simp [intOf]; omega⟩
            · obtain rfl : k = 8 := by omega
              rw [arr_upto_all (by omega)] at hb
              have h1 := h14.only hoo (by simp; omega)
              go_wp2_with (first | refine ld64 hb rfl rfl rfl ?_ | refine st64 h1 rfl rfl rfl rfl ?_)
              exact bodyPost_ret (res64 rfl (h1.row _) rfl) rfl ⟨rfl, ho.setRow (.inr (by have := HG.out; omega)) _⟩
end Go.Proofs.Ytdcbkmjmakogeaa
