/- Arrays of 64 integers in regions; blocks of samples. -/
import Derived.Test.YtmjjdehicngffaaDoorT5
import Derived.Test.YtmjjdehicngffaaDoorTq
import Derived.Deep.RegionHeld3
namespace Go.Proofs.YtmjjdehicngffaaDoor
open Go.RowKit

theorem get_of_drop {ops : Array Oper} {i : Nat} {oi : Oper} {rest : List Oper} (h : ops.toList.drop i = oi :: rest) : ops[i]? = some oi := by
  have : (ops.toList.drop i)[0]? = some oi := by rw [h]; rfl
  rw [List.getElem?_drop] at this
  simpa using this
/-- One operation of a region is taken first. -/
theorem takeH {P : Program} {md : Region.Mode} {ops : Array Oper} {Q : Exit → Act → World → Prop} {S : World → Prop} {i : Nat} {oi : Oper} {rest : List Oper} {v : Value} {fuel : Nat} {listed : Array Bool} {a : Act} {w : World} (hi : ops.toList.drop i = oi :: rest)
    (hs : Region.noSelect ops = true) (hf : Region.free md ops listed i = true) (hr : (Region.ready md ops listed).contains i = true)
    (hQ : ∀ c a w, Q (.panic c) (a.put oi.dst v) w → Q (.panic c) a w) (hy : YieldsIf P ops S oi v a) (hS : S w)
    (h : wpAnyH P md ops Q S fuel (listed.setIfInBounds i true) (a.put oi.dst v) w) : wpAnyH P md ops Q S (fuel + 1) listed a w :=
  wpAnyH_take (get_of_drop hi) hs hf hr hQ hy hS h
/-- The one operation that may come up. -/
theorem readyH {P : Program} {md : Region.Mode} {ops : Array Oper} {Q : Exit → Act → World → Prop} {S : World → Prop} {fuel : Nat} {listed : Array Bool} {a : Act} {w : World} {i : Nat} {o : Oper} {rest : List Oper} (ho : ops.toList.drop i = o :: rest)
    (h : ∀ K' : Act → World → Prop, Shut (∀ a w, S w → (S w → wpAnyH P md ops Q S fuel (listed.setIfInBounds i true) a w) → K' a w) → if Region.wanted o (yielded ops a.tmps) = true then Oper.wp P o a w K' Q else K' (a.put o.dst undef) w) :
    AllReadyH P md ops Q S fuel listed a w [i] := AllReadyH.cons (get_of_drop ho) h AllReadyH.nil
section
variable {ops : Array Oper} {o : Oper} {a : Act} {w : World} {K : Act → World → Prop} {Q : Exit → Act → World → Prop} {E : Prop} {g : Nat} {x y : Nat → Int} {X Y : Operand}
/-- A whole array out of its block, as a step of a region that draws its order. -/
theorem sld64 (h : Blk w g 23 (arr .i64 64 x)) (hw : Region.wanted o (yielded ops a.tmps) = true) (ho : o.op = .load 23 X) (hx : a.eval X = .pointer (some ⟨g, 0, none⟩))
    (k : K (a.put o.dst (.agg (arr .i64 64 x))) w) : if Region.wanted o (yielded ops a.tmps) = true then Oper.wp Tryd.prog o a w K Q else E := by
  rw [if_pos hw]
  exact wp_load_row _ X ho g hx _ _ (0, 0) _ h Tryd.underlying23 rfl (info_of_arr _) k
end
/-- A whole array out of its block, at an operation under a guard that is met. -/
theorem gld64 {ops : Array Oper} {rest : List Oper} {o : Oper} {a : Act} {w : World} {Q : Exit → Act → World → Prop} {g : Nat} {x : Nat → Int} {X : Operand} (h : Blk w g 23 (arr .i64 64 x)) (hw : Region.wanted o (yielded ops a.tmps) = true) (ho : o.op = .load 23 X) (hx : a.eval X = .pointer (some ⟨g, 0, none⟩))
    (k : wpList Tryd.prog ops Q rest (a.put o.dst (.agg (arr .i64 64 x))) w) : wpList Tryd.prog ops Q (o :: rest) a w :=
  wpList_step fun K hK => by
    rw [if_pos hw]
    exact wp_load_row _ X ho g hx _ _ (0, 0) _ h Tryd.underlying23 rfl (info_of_arr _) (hK _ _ k)
theorem eql64 (x y : Nat → Int) (w : World) : (binOp .eql 23 (.agg (arr .i64 64 x)) (.agg (arr .i64 64 y))).run Tryd.prog w = .ok (.bool (eqTo 64 x y)) w := by
  have h : (Tryd.prog.info? 3).isSome = true := by kernel_rfl
  obtain ⟨i, hi⟩ := Option.isSome_iff_exists.1 h
  exact run_eql_arr w _ _ _ _ i x y Tryd.underlying23 Tryd.underlying3 hi (by kernel_rfl)
theorem blockOf_I64 {l : List Int} (h : ∀ z ∈ l, -9223372036854775808 ≤ z ∧ z ≤ 9223372036854775807) : I64 64 (blockOf l) := by
  intro j _
  unfold blockOf
  by_cases hj : j < l.length
  · have e : l.getD j 0 = l[j] := by simp [hj]
    rw [e]
    exact h _ (List.getElem_mem hj)
  · have e : l.getD j 0 = 0 := by simp [List.getD, List.getElem?_eq_none (show l.length ≤ j by omega)]
    rw [e]; omega
/-- An array laid into a new variable. -/
theorem new_row (w : World) (x : Nat → Int) : Only [] w ((w.alloc (Obj.cells (arr .i64 64 fun _ => 0) 23)).setRow w.heap.size (arr .i64 64 x)) ∧ Blk ((w.alloc (Obj.cells (arr .i64 64 fun _ => 0) 23)).setRow w.heap.size (arr .i64 64 x)) w.heap.size 23 (arr .i64 64 x) :=
  ⟨((Only.refl _ _).alloc _).setRow (.inr (Nat.le_refl _)) _, Blk.row (Blk.new _ _ _) _⟩
/-- Two arrays laid into two new variables. -/
def twoW (w : World) (x z : Nat → Int) : World := (((w.alloc (Obj.cells (arr .i64 64 fun _ => 0) 23)).alloc (Obj.cells (arr .i64 64 fun _ => 0) 23)).setRow w.heap.size (arr .i64 64 x)).setRow (w.heap.size + 1) (arr .i64 64 z)
theorem two_rows (w : World) (x z : Nat → Int) : Only [] w (twoW w x z) ∧ Blk (twoW w x z) w.heap.size 23 (arr .i64 64 x) ∧ Blk (twoW w x z) (w.heap.size + 1) 23 (arr .i64 64 z) := by
  refine ⟨((((Only.refl _ _).alloc _).alloc _).setRow (.inr (Nat.le_refl _)) _).setRow (.inr (Nat.le_succ _)) _, ?_, ?_⟩
  · exact Blk.off_row (Blk.row ((Blk.new _ _ _).alloc _) _) (Nat.ne_of_lt (Nat.lt_succ_self _)) _
  · exact Blk.row (Blk.off_row (Blk.new2 w _ _ _) (Nat.ne_of_gt (Nat.lt_succ_self _)) _) _
theorem bd_of_inside {x : Nat → Int} {m : Int} (h : inside x m 64 = true) (hm : m ≤ 255) : Bd x 255 := fun j hj => by have := inside_true.1 h j hj; omega
theorem inside_255 {x : Nat → Int} {m : Int} (h : inside x m 64 = true) (hm : m ≤ 255) : inside x 255 64 = true := inside_true.2 (bd_of_inside h hm)
theorem fw_I64 {x : Nat → Int} (h : Bd x 255) : I64 64 (fw x) := by
  intro n hn
  have := sumTo_bd (f := fun k => T (n / 8) k * rowF x (8 * k + n % 8)) (B := 12 * (96 * 255)) 8 (fun k hk => mul_bd (T_bd (by omega) hk) (rowF_bd h _ (by omega)))
  unfold fw
  omega

end Go.Proofs.YtmjjdehicngffaaDoor
