/- Contracts of chapter 5's small functions: matrix, norms, Basis, Norm, Clamp, nearest. -/
import Derived.Test.YtdcbkmjmakogeaaT1
namespace Go.Proofs.Ytdcbkmjmakogeaa
open Go.RowKit

/-- The transform's matrix. -/
def T (i k : Nat) : Int :=
  (([[8, 8, 8, 8, 8, 8, 8, 8], [12, 10, 6, 3, -3, -6, -10, -12], [8, 4, -4, -8, -8, -4, 4, 8], [10, -3, -12, -6, 6, 12, 3, -10],
    [8, -8, -8, 8, 8, -8, -8, 8], [6, -12, 3, 10, -10, -3, 12, -6], [4, -8, 8, -4, -4, 8, -8, 4], [3, -6, 10, -12, 12, -10, 6, -3]] : List (List Int)).getD i []).getD k 0
def Tm (n : Nat) : Int := T (n / 8) (n % 8)
/-- The squared norms. -/
def Nm (i : Nat) : Int := ([512, 578, 320, 578, 512, 578, 320, 578] : List Int).getD i 0

section
variable {ops : Array Oper} {rest : List Oper} {o : Oper} {a : Act} {w : World} {Q : Exit → Act → World → Prop} {g : Nat} {x y : Nat → Int} {X Y : Operand}
theorem info_of_mat (x : Nat → Int) : (Try.prog.info? 49).map (·.size) = some (arr .i64 64 x).size := by rw [arr_size]; kernel_rfl
theorem st37 (h : Blk w g 49 (arr .i64 64 x)) (hgd : o.guard = none) (ho : o.op = .store 49 X Y) (hx : a.eval X = .pointer (some ⟨g, 0, none⟩)) (hy : a.eval Y = .agg (arr .i64 64 y))
    (k : wpList Try.prog ops Q rest (a.put o.dst undef) (w.setRow g (arr .i64 64 y))) : wpList Try.prog ops Q (o :: rest) a w :=
  wpList_store_row hgd 49 X Y ho g _ hx hy 49 _ h (info_of_mat _) (by rw [arr_size, arr_size]) arr_one k
theorem res37 {fn : Func} {p : Tmp} (h : fn.results = #[.cell p 49]) {tmps : Array Value} (hb : Blk w g 49 (arr .i64 64 x)) (hp : tmps.getD p undef = .pointer (some ⟨g, 0, none⟩)) :
    (results fn tmps).run Try.prog w = .ok (.agg (arr .i64 64 x)) w :=
  results_cell_row h tmps w g 49 _ (0, 0) _ hp hb Try.underlying49 rfl (info_of_mat _)
theorem bld37 {parts : Array (Nat × Operand)} (cs : Array Value) (hgd : o.guard = none) (ho : o.op = .build 49 parts) (hb : Try.prog.built 49 (parts.map fun (i, x) => (i, a.eval x)).toList = some cs)
    (k : wpList Try.prog ops Q rest (a.put o.dst (.agg cs)) w) : wpList Try.prog ops Q (o :: rest) a w :=
  wpList_build hgd _ parts ho (by rw [hb]; rfl) (by rw [hb]; exact k)
end

theorem matrix_any (w : World) : Calls Try.prog 39 #[] w fun e w' => e = .returned (.agg (arr .i64 64 Tm)) ∧ Only [] w w' := by
  go_enter Try.func39, Try.ntmps39
  go_wp2_with (first | refine bld37 (arr .i64 64 Tm) rfl rfl (by kernel_rfl) ?_ | refine st37 (x := fun _ => 0) (g := w.heap.size) (Blk.new _ _ _) rfl rfl rfl rfl ?_)
  exact bodyPost_ret (res37 rfl (Blk.row (cs := arr .i64 64 fun _ => 0) (Blk.new _ _ _) _) rfl) rfl ⟨rfl, ((Only.refl _ _).alloc _).setRow (.inr (Nat.le_refl _)) _⟩
theorem norms_any (w : World) : Calls Try.prog 40 #[] w fun e w' => e = .returned (.agg (arr .i64 8 Nm)) ∧ Only [] w w' := by
  go_enter Try.func40, Try.ntmps40
  go_wp2_with fail
  exact bodyPost_ret (results_cell_row rfl _ _ w.heap.size 48 (arr .i64 8 Nm) (0, 0) _ rfl (Blk.new _ _ _) Try.underlying48 rfl (by rw [arr_size]; kernel_rfl)) rfl ⟨rfl, (Only.refl _ _).alloc _⟩
end Go.Proofs.Ytdcbkmjmakogeaa
