/- Contracts of chapter 5's small functions: matrix, norms, Basis, Norm, Clamp, nearest. -/
import Derived.Test.YtmjjdehicngffaaDoorT1
namespace Go.Proofs.YtmjjdehicngffaaDoor
open Go.RowKit

/-- The transform's matrix. -/
def T (i k : Nat) : Int :=
  (([[8, 8, 8, 8, 8, 8, 8, 8], [12, 10, 6, 3, -3, -6, -10, -12], [8, 4, -4, -8, -8, -4, 4, 8], [10, -3, -12, -6, 6, 12, 3, -10],
    [8, -8, -8, 8, 8, -8, -8, 8], [6, -12, 3, 10, -10, -3, 12, -6], [4, -8, 8, -4, -4, 8, -8, 4], [3, -6, 10, -12, 12, -10, 6, -3]] : List (List Int)).getD i []).getD k 0
def Tm (n : Nat) : Int := T (n / 8) (n % 8)
/-- The squared norms. -/
def Nm (i : Nat) : Int := ([512, 578, 320, 578, 512, 578, 320, 578] : List Int).getD i 0

section
variable {ops : Array Oper} {rest : List Oper} {o : Oper} {a : Act} {w : World} {Q : Exit → Act → World → Prop} {g : Nat} {x y : Nat → Int} {X Y : Operand}
end

theorem norms_any (w : World) : Calls Tryd.prog 29 #[] w fun e w' => e = .returned (.agg (arr .i64 8 Nm)) ∧ Only [] w w' := by
  go_enter Tryd.func29, Tryd.ntmps29
  go_wp2_with fail
  exact bodyPost_ret (results_cell_row rfl _ _ w.heap.size 45 (arr .i64 8 Nm) (0, 0) _ rfl (Blk.new _ _ _) Tryd.underlying45 rfl (by rw [arr_size]; kernel_rfl)) rfl ⟨rfl, (Only.refl _ _).alloc _⟩
end Go.Proofs.YtmjjdehicngffaaDoor
