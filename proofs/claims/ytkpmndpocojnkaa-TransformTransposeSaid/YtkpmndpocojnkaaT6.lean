/- The contract of chapter 5's sanity check. -/
import Derived.Test.YtkpmndpocojnkaaT5
import Derived.Test.YtkpmndpocojnkaaTq
import Derived.Deep.RegionHeld3
namespace Go.Proofs.Ytkpmndpocojnkaa
open Go.RowKit

theorem get_of_drop {ops : Array Oper} {i : Nat} {oi : Oper} {rest : List Oper} (h : ops.toList.drop i = oi :: rest) : ops[i]? = some oi := by
  have : (ops.toList.drop i)[0]? = some oi := by rw [h]; rfl
  rw [List.getElem?_drop] at this
  simpa using this
/-- One operation of a region is taken first. -/
theorem takeH {P : Program} {md : Region.Mode} {ops : Array Oper} {Q : Exit → Act → World → Prop} {S : World → Prop} {i : Nat} {oi : Oper} {rest : List Oper} {v : Value} {fuel : Nat} {listed : Array Bool} {a : Act} {w : World} (hi : ops.toList.drop i = oi :: rest)
    (hs : Region.noSelect ops = true) (hf : Region.free md ops listed i = true) (hr : (Region.ready md ops listed).contains i = true)
    (hQ : ∀ c a w, Q (.panic c) (a.put oi.dst v) w → Q (.panic c) a w) (hy : YieldsIf P ops S oi v a) (hS : S w)
    (h : wpAnyH P md ops Q S fuel (listed.setIfInBounds i true) (a.put oi.dst v) w) : wpAnyH P md ops Q S (fuel + 1) listed a w :=
  wpAnyH_take (get_of_drop hi) hs hf hr hQ hy hS h
/-- The one operation that may come up. -/
theorem readyH {P : Program} {md : Region.Mode} {ops : Array Oper} {Q : Exit → Act → World → Prop} {S : World → Prop} {fuel : Nat} {listed : Array Bool} {a : Act} {w : World} {i : Nat} {o : Oper} {rest : List Oper} (ho : ops.toList.drop i = o :: rest)
    (h : ∀ K' : Act → World → Prop, Shut (∀ a w, S w → (S w → wpAnyH P md ops Q S fuel (listed.setIfInBounds i true) a w) → K' a w) → if Region.wanted o (yielded ops a.tmps) = true then Oper.wp P o a w K' Q else K' (a.put o.dst undef) w) :
    AllReadyH P md ops Q S fuel listed a w [i] := AllReadyH.cons (get_of_drop ho) h AllReadyH.nil
section
variable {ops : Array Oper} {o : Oper} {a : Act} {w : World} {K : Act → World → Prop} {Q : Exit → Act → World → Prop} {E : Prop} {g : Nat} {x y : Nat → Int} {X Y : Operand}
/-- A whole array out of its block, as a step of a region that draws its order. -/
theorem sld64 (h : Blk w g 23 (arr .i64 64 x)) (hw : Region.wanted o (yielded ops a.tmps) = true) (ho : o.op = .load 23 X) (hx : a.eval X = .pointer (some ⟨g, 0, none⟩))
    (k : K (a.put o.dst (.agg (arr .i64 64 x))) w) : if Region.wanted o (yielded ops a.tmps) = true then Oper.wp Try.prog o a w K Q else E := by
  rw [if_pos hw]
  exact wp_load_row _ X ho g hx _ _ (0, 0) _ h Try.underlying23 rfl (info_of_arr _) k
end
/-- A whole array out of its block, at an operation under a guard that is met. -/
theorem gld64 {ops : Array Oper} {rest : List Oper} {o : Oper} {a : Act} {w : World} {Q : Exit → Act → World → Prop} {g : Nat} {x : Nat → Int} {X : Operand} (h : Blk w g 23 (arr .i64 64 x)) (hw : Region.wanted o (yielded ops a.tmps) = true) (ho : o.op = .load 23 X) (hx : a.eval X = .pointer (some ⟨g, 0, none⟩))
    (k : wpList Try.prog ops Q rest (a.put o.dst (.agg (arr .i64 64 x))) w) : wpList Try.prog ops Q (o :: rest) a w :=
  wpList_step fun K hK => by
    rw [if_pos hw]
    exact wp_load_row _ X ho g hx _ _ (0, 0) _ h Try.underlying23 rfl (info_of_arr _) (hK _ _ k)
theorem eql64 (x y : Nat → Int) (w : World) : (binOp .eql 23 (.agg (arr .i64 64 x)) (.agg (arr .i64 64 y))).run Try.prog w = .ok (.bool (eqTo 64 x y)) w := by
  have h : (Try.prog.info? 3).isSome = true := by kernel_rfl
  obtain ⟨i, hi⟩ := Option.isSome_iff_exists.1 h
  exact run_eql_arr w _ _ _ _ i x y Try.underlying23 Try.underlying3 hi (by kernel_rfl)
theorem blockOf_I64 {l : List Int} (h : ∀ z ∈ l, -9223372036854775808 ≤ z ∧ z ≤ 9223372036854775807) : I64 64 (blockOf l) := by
  intro j _
  unfold blockOf
  by_cases hj : j < l.length
  · have e : l.getD j 0 = l[j] := by simp [hj]
    rw [e]
    exact h _ (List.getElem_mem hj)
  · have e : l.getD j 0 = 0 := by simp [List.getD, List.getElem?_eq_none (show l.length ≤ j by omega)]
    rw [e]; omega
/-- An array laid into a new variable. -/
theorem new_row (w : World) (x : Nat → Int) : Only [] w ((w.alloc (Obj.cells (arr .i64 64 fun _ => 0) 23)).setRow w.heap.size (arr .i64 64 x)) ∧ Blk ((w.alloc (Obj.cells (arr .i64 64 fun _ => 0) 23)).setRow w.heap.size (arr .i64 64 x)) w.heap.size 23 (arr .i64 64 x) :=
  ⟨((Only.refl _ _).alloc _).setRow (.inr (Nat.le_refl _)) _, Blk.row (Blk.new _ _ _) _⟩
/-- Two arrays laid into two new variables. -/
def twoW (w : World) (x z : Nat → Int) : World := (((w.alloc (Obj.cells (arr .i64 64 fun _ => 0) 23)).alloc (Obj.cells (arr .i64 64 fun _ => 0) 23)).setRow w.heap.size (arr .i64 64 x)).setRow (w.heap.size + 1) (arr .i64 64 z)
theorem two_rows (w : World) (x z : Nat → Int) : Only [] w (twoW w x z) ∧ Blk (twoW w x z) w.heap.size 23 (arr .i64 64 x) ∧ Blk (twoW w x z) (w.heap.size + 1) 23 (arr .i64 64 z) := by
  refine ⟨((((Only.refl _ _).alloc _).alloc _).setRow (.inr (Nat.le_refl _)) _).setRow (.inr (Nat.le_succ _)) _, ?_, ?_⟩
  · exact Blk.off_row (Blk.row ((Blk.new _ _ _).alloc _) _) (Nat.ne_of_lt (Nat.lt_succ_self _)) _
  · exact Blk.row (Blk.off_row (Blk.new2 w _ _ _) (Nat.ne_of_gt (Nat.lt_succ_self _)) _) _
theorem bd_of_inside {x : Nat → Int} {m : Int} (h : inside x m 64 = true) (hm : m ≤ 255) : Bd x 255 := fun j hj => by have := inside_true.1 h j hj; omega
theorem inside_255 {x : Nat → Int} {m : Int} (h : inside x m 64 = true) (hm : m ≤ 255) : inside x 255 64 = true := inside_true.2 (bd_of_inside h hm)
/-- The block of ones. -/
def ones : Nat → Int := fun _ => 1
theorem ones_fw1 : fw ones 0 = 4096 ∧ fw ones 1 = 0 ∧ inside ones 255 64 = true := by decide +kernel
theorem ones_fw : fw ones 0 = 4096 ∧ fw ones 1 = 0 ∧ inside ones 255 64 = true ∧ eqTo 64 (inv (fw ones)) ones = true :=
  ⟨ones_fw1.1, ones_fw1.2.1, ones_fw1.2.2, eqTo_of (fun j hj => back (inside_true.1 ones_fw1.2.2) j hj)⟩
theorem fw_I64 {x : Nat → Int} (h : Bd x 255) : I64 64 (fw x) := by
  intro n hn
  have := sumTo_bd (f := fun k => T (n / 8) k * rowF x (8 * k + n % 8)) (B := 12 * (96 * 255)) 8 (fun k hk => mul_bd (T_bd (by omega) hk) (rowF_bd h _ (by omega)))
  unfold fw
  omega

theorem awake_of (w : World) (x : Nat → Int) (h1 : ∀ k, x k = 1) (t1 : fw x 0 = 4096) (t2 : fw x 1 = 0) (t3 : inside x 255 64 = true) (t4 : eqTo 64 (inv (fw x)) x = true) :
    Calls Try.prog 15 #[] w fun e w' => e = .returned (.bool true) ∧ Only [] w w' := by
  have hB : Bd x 255 := inside_true.1 t3
  have hI : I64 64 x := fun n _ => by rw [h1]; omega
  have HO := Lib.hid h1
  clear h1
  have hI2 := fw_I64 hB
  have T4 := Lib.hid t4
  have H1 := Lib.hid t1
  have H2 := Lib.hid t2
  clear t4 t1 t2
  go_enter Try.func15, Try.ntmps15
  go_wp2_with fail
  refine at_world (Φ := fun w1 => Only [] w w1 ∧ Blk w1 w.heap.size 23 (arr .i64 64 (upto 0 x))) ⟨(Only.refl _ _).alloc _, by rw [arr_upto_zero]; exact Blk.new _ _ _⟩ ?_
  rintro w1 ⟨ho1, hb1⟩
  generalize hg : w.heap.size = g at hb1
  have HG := Lib.hid hg
  clear hg
  go_loopw [2] (fun i wr => ∃ k : Nat, k ≤ 64 ∧ i = .int .i64 k ∧ Only [] w wr ∧ Blk wr g 23 (arr .i64 64 (upto k x))) (fun i _ => 64 - (intOf i).toNat)
  case atStart => exact ⟨0, by omega, rfl, ho1, hb1⟩
  case round =>
    obtain ⟨k, hk, rfl, ho, hb⟩ := hrel
    by_cases hlt : k < 64
    · have hd : decide ((k : Int) < 64) = true := by simp; omega
      have hcg := hb.cell k
      rw [arr_get hlt] at hcg
      have hfz := hb.frozen k
      have On := Lib.hid (ho.setCell (p := ⟨g, k, none⟩) (.inr (by have := HG.out; show _ ≤ g; omega)) (.int .i64 1))
      have Hb := Lib.hid (show Blk (wr.setCell ⟨g, k, none⟩ (.int .i64 1)) g 23 (arr .i64 64 (upto (k + 1) x)) from by have := hb.set_ k (.int .i64 1); rwa [arr_set_upto hlt (HO.out k)] at this)
      go_wp2_with fail
      exact ⟨⟨k + 1, by omega, by go_num, On.out, Hb.out⟩, by simp [intOf]; omega⟩
    · obtain rfl : k = 64 := by omega
      rw [arr_upto_all (by omega)] at hb
      go_wp2_with (refine ld64 hb rfl rfl rfl ?_)
      refine (forward_in _ x hI t3).mono ?_
      rintro e w2 ⟨rfl, o2⟩
      have hb2 := hb.only o2 (by simp)
      have ho2 := ho.then o2
      clear ho hb o2
      go_wp2_with (refine st64 (x := fun _ => 0) (g := w2.heap.size) (Blk.new _ _ _) rfl rfl rfl rfl ?_)
      refine at_world (Φ := fun w3 => Only [] w w3 ∧ Blk w3 g 23 (arr .i64 64 x) ∧ Blk w3 w2.heap.size 23 (arr .i64 64 (fw x)))
        ⟨(ho2.alloc _).setRow (.inr ho2.size) _, (hb2.alloc _).off_row (by have := hb2.lt; omega) _, Blk.row (Blk.new _ _ _) _⟩ ?_
      rintro w3 ⟨ho3, hb3, hy3⟩
      clear ho2 hb2
      generalize w2.heap.size = g3 at hy3
      have c0 := hy3.cell 0
      have c1 := hy3.cell 1
      rw [arr_get (by omega), H1.out] at c0
      rw [arr_get (by omega), H2.out] at c1
      have heq : ∀ w, (binOp .eql 23 (.agg (arr .i64 64 (inv (fw x)))) (.agg (rowL .i64 64 x).toArray)).run Try.prog w = .ok (.bool true) w := fun w => by have := eql64 (inv (fw x)) x w; rw [T4.out] at this; exact this
      have hu := Try.underlying23
      have hi1 : (Try.prog.info? 23).map (·.size) = some (rowL .i64 64 x).length := by rw [rowL_length]; exact info_arr64
      have hi2 : (Try.prog.info? 23).map (·.size) = some (rowL .i64 64 (fw x)).length := by rw [rowL_length]; exact info_arr64
      have r3 := hb3.range
      have ry := hy3.range
      have HY := Lib.hid hy3
      have HB := Lib.hid hb3
      clear hy3 hb3
      refine wp_region_held_drew (S := fun w' => w'.cell? ⟨g3, 0, none⟩ = some (.int .i64 4096) ∧ w'.cell? ⟨g3, 1, none⟩ = some (.int .i64 0) ∧ w'.rangeAt g3 0 (rowL .i64 64 (fw x)) ∧ w'.rangeAt g 0 (rowL .i64 64 x)) (by kernel_rfl) ⟨c0, c1, ry, r3⟩ (fun hHeld => ?_)
      refine takeH (i := 0) (v := ?_) rfl (by kernel_rfl) (by kernel_rfl) (by kernel_rfl) (fun _ _ _ h => h) (Or.inl ⟨by rfl, ?_⟩) (by assumption) ?_
      rotate_left
      · intro w hSw; (try dsimp only at hSw); go_simp; try with_reducible rfl
      simp only [Act.put, List.setIfInBounds_toArray, List.set_cons_zero, List.set_cons_succ]
      refine takeH (i := 1) (v := ?_) rfl (by kernel_rfl) (by kernel_rfl) (by kernel_rfl) (fun _ _ _ h => h) (Or.inl ⟨by rfl, ?_⟩) (by assumption) ?_
      rotate_left
      · intro w hSw; (try dsimp only at hSw); go_simp; try with_reducible rfl
      simp only [Act.put, List.setIfInBounds_toArray, List.set_cons_zero, List.set_cons_succ]
      refine takeH (i := 2) (v := ?_) rfl (by kernel_rfl) (by kernel_rfl) (by kernel_rfl) (fun _ _ _ h => h) (Or.inl ⟨by rfl, ?_⟩) (by assumption) ?_
      rotate_left
      · intro w hSw; (try dsimp only at hSw); go_simp; try with_reducible rfl
      simp only [Act.put, List.setIfInBounds_toArray, List.set_cons_zero, List.set_cons_succ]
      refine takeH (i := 3) (v := ?_) rfl (by kernel_rfl) (by kernel_rfl) (by kernel_rfl) (fun _ _ _ h => h) (Or.inl ⟨by rfl, ?_⟩) (by assumption) ?_
      rotate_left
      · intro w hSw; (try dsimp only at hSw); go_simp; try with_reducible rfl
      simp only [Act.put, List.setIfInBounds_toArray, List.set_cons_zero, List.set_cons_succ]
      refine takeH (i := 4) (v := ?_) rfl (by kernel_rfl) (by kernel_rfl) (by kernel_rfl) (fun _ _ _ h => h) (Or.inl ⟨by rfl, ?_⟩) (by assumption) ?_
      rotate_left
      · intro w hSw; (try dsimp only at hSw); go_simp; try with_reducible rfl
      simp only [Act.put, List.setIfInBounds_toArray, List.set_cons_zero, List.set_cons_succ]
      refine takeH (i := 5) (v := ?_) rfl (by kernel_rfl) (by kernel_rfl) (by kernel_rfl) (fun _ _ _ h => h) (Or.inl ⟨by rfl, ?_⟩) (by assumption) ?_
      rotate_left
      · intro w hSw; (try dsimp only at hSw); go_simp; try with_reducible rfl
      simp only [Act.put, List.setIfInBounds_toArray, List.set_cons_zero, List.set_cons_succ]
      refine takeH (i := 6) (v := ?_) rfl (by kernel_rfl) (by kernel_rfl) (by kernel_rfl) (fun _ _ _ h => h) (Or.inl ⟨by rfl, ?_⟩) (by assumption) ?_
      rotate_left
      · intro w hSw; (try dsimp only at hSw); go_simp; try with_reducible rfl
      simp only [Act.put, List.setIfInBounds_toArray, List.set_cons_zero, List.set_cons_succ]
      refine takeH (i := 7) (v := ?_) rfl (by kernel_rfl) (by kernel_rfl) (by kernel_rfl) (fun _ _ _ h => h) (Or.inl ⟨by rfl, ?_⟩) (by assumption) ?_
      rotate_left
      · intro w hSw; (try dsimp only at hSw); go_simp; try with_reducible rfl
      simp only [Act.put, List.setIfInBounds_toArray, List.set_cons_zero, List.set_cons_succ]
      refine takeH (i := 8) (v := ?_) rfl (by kernel_rfl) (by kernel_rfl) (by kernel_rfl) (fun _ _ _ h => h) (Or.inl ⟨by rfl, ?_⟩) (by assumption) ?_
      rotate_left
      · intro w hSw; (try dsimp only at hSw); go_simp; try with_reducible rfl
      simp only [Act.put, List.setIfInBounds_toArray, List.set_cons_zero, List.set_cons_succ]
      refine takeH (i := 9) (v := ?_) rfl (by kernel_rfl) (by kernel_rfl) (by kernel_rfl) (fun _ _ _ h => h) (Or.inl ⟨by rfl, ?_⟩) (by assumption) ?_
      rotate_left
      · intro w hSw; (try dsimp only at hSw); go_simp; try with_reducible rfl
      simp only [Act.put, List.setIfInBounds_toArray, List.set_cons_zero, List.set_cons_succ]
      refine takeH (i := 10) (v := ?_) rfl (by kernel_rfl) (by kernel_rfl) (by kernel_rfl) (fun _ _ _ h => h) (Or.inl ⟨by rfl, ?_⟩) (by assumption) ?_
      rotate_left
      · intro w hSw; (try dsimp only at hSw); go_simp; try with_reducible rfl
      simp only [Act.put, List.setIfInBounds_toArray, List.set_cons_zero, List.set_cons_succ]
      refine takeH (i := 11) (v := ?_) rfl (by kernel_rfl) (by kernel_rfl) (by kernel_rfl) (fun _ _ _ h => h) (Or.inl ⟨by rfl, ?_⟩) (by assumption) ?_
      rotate_left
      · intro w hSw; (try dsimp only at hSw); go_simp; try with_reducible rfl
      simp only [Act.put, List.setIfInBounds_toArray, List.set_cons_zero, List.set_cons_succ]
      refine takeH (i := 12) (v := ?_) rfl (by kernel_rfl) (by kernel_rfl) (by kernel_rfl) (fun _ _ _ h => h) (Or.inl ⟨by rfl, ?_⟩) (by assumption) ?_
      rotate_left
      · intro w hSw; (try dsimp only at hSw); go_simp; try with_reducible rfl
      simp only [Act.put, List.setIfInBounds_toArray, List.set_cons_zero, List.set_cons_succ]
      refine takeH (i := 13) rfl (by kernel_rfl) (by kernel_rfl) (by kernel_rfl) (fun _ _ _ h => h) (yieldsIf_load_mid (by rfl) _ _ rfl _ _ rfl (rowL .i64 64 (fw x)) _ (fun _ h => h.2.2.1) Try.underlying23 rfl hi2) (by assumption) ?_
      simp only [Act.put, List.setIfInBounds_toArray, List.set_cons_zero, List.set_cons_succ]
      refine takeH (i := 15) rfl (by kernel_rfl) (by kernel_rfl) (by kernel_rfl) (fun _ _ _ h => h) (yieldsIf_load_mid (by rfl) _ _ rfl _ _ rfl (rowL .i64 64 x) _ (fun _ h => h.2.2.2) Try.underlying23 rfl hi1) (by assumption) ?_
      simp only [Act.put, List.setIfInBounds_toArray, List.set_cons_zero, List.set_cons_succ]
      refine wpAnyH_ready (rs := [14]) (by kernel_rfl) (by simp) ?_
      refine readyH rfl (fun K hK => ?_)
      rw [if_pos (by rfl)]
      go_wp2_with fail
      refine (inverse_any _ (fw x) hI2).mono ?_
      rintro e w5 ⟨rfl, o5⟩
      go_wp2_with fail
      refine hK.out _ _ ⟨(o5.cell (p := ⟨g3, 0, none⟩) (World.block_lt_of_cell? _ _ c0) (by simp)).trans c0, (o5.cell (p := ⟨g3, 1, none⟩) (World.block_lt_of_cell? _ _ c1) (by simp)).trans c1, (HY.out.drew.only o5 (by simp)).range, (HB.out.drew.only o5 (by simp)).range⟩ (fun hHeld => ?_)
      clear hK K
      refine takeH (i := 16) (v := ?_) rfl (by kernel_rfl) (by kernel_rfl) (by kernel_rfl) (fun _ _ _ h => h) (Or.inl ⟨by rfl, ?_⟩) (by assumption) ?_
      rotate_left
      · intro w hSw; (try dsimp only at hSw); go_simp; try with_reducible rfl
      simp only [Act.put, List.setIfInBounds_toArray, List.set_cons_zero, List.set_cons_succ]
      refine takeH (i := 17) (v := ?_) rfl (by kernel_rfl) (by kernel_rfl) (by kernel_rfl) (fun _ _ _ h => h) (Or.inl ⟨by rfl, ?_⟩) (by assumption) ?_
      rotate_left
      · intro w hSw; (try dsimp only at hSw); go_simp; try with_reducible rfl
      simp only [Act.put, List.setIfInBounds_toArray, List.set_cons_zero, List.set_cons_succ]
      refine takeH (i := 18) (v := ?_) rfl (by kernel_rfl) (by kernel_rfl) (by kernel_rfl) (fun _ _ _ h => h) (Or.inl ⟨by rfl, ?_⟩) (by assumption) ?_
      rotate_left
      · intro w hSw; (try dsimp only at hSw); go_simp; try with_reducible rfl
      refine wpAnyH_done (by kernel_rfl) ?_ _
      go_wp2_with fail
      go_ret
      exact ⟨rfl, ho3.drew.then o5⟩
theorem awake_any (w : World) : Calls Try.prog 15 #[] w fun e w' => e = .returned (.bool true) ∧ Only [] w w' :=
  awake_of w ones (fun _ => rfl) ones_fw.1 ones_fw.2.1 ones_fw.2.2.1 ones_fw.2.2.2
end Go.Proofs.Ytkpmndpocojnkaa
