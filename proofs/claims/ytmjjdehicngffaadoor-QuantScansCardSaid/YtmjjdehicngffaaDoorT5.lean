/- The contract of transform.Inverse. -/
import Derived.Test.YtmjjdehicngffaaDoorT4
namespace Go.Proofs.YtmjjdehicngffaaDoor
open Go.RowKit

/-- The first m elements of f, behind them those of g. -/
def blend (m : Nat) (f g : Nat → Int) : Nat → Int := fun j => if j < m then f j else g j
theorem arr_blend_zero {k : IntKind} {n : Nat} {f g : Nat → Int} : arr k n (blend 0 f g) = arr k n g := arr_congr (fun j _ => by simp [blend])
theorem arr_blend_all {k : IntKind} {n m : Nat} {f g : Nat → Int} (h : n ≤ m) : arr k n (blend m f g) = arr k n f := arr_congr (fun j hj => by unfold blend; rw [if_pos (by omega)])
theorem arr_set_blend {k : IntKind} {n m : Nat} {f g : Nat → Int} {v : Int} (h : m < n) (hv : f m = v) : (arr k n (blend m f g)).setIfInBounds m (.int k v) = arr k n (blend (m + 1) f g) := by
  rw [arr_set v h]
  apply arr_congr
  intro j _
  unfold upd blend
  by_cases h1 : j = m
  · subst h1; simp [hv]
  · rw [if_neg h1]
    by_cases h2 : j < m
    · rw [if_pos h2, if_pos (by omega)]
    · rw [if_neg h2, if_neg (by omega)]
theorem blend_at {m : Nat} {f g : Nat → Int} : blend m f g m = g m := by simp [blend]
/-- The matrix, each row multiplied by its M. -/
def TMm (n : Nat) : Int := T (n / 8) (n % 8) * Mm (n / 8)
theorem TMm_at (i k : Nat) (hk : k < 8) : TMm (i * 8 + k) = T i k * Mm i := by
  unfold TMm
  rw [show (i * 8 + k) / 8 = i by omega, show (i * 8 + k) % 8 = k by omega]
theorem quoM : ∀ i : Fin 8, Int.tdiv 739840 (Nm i.val) = Mm i.val ∧ 0 < Nm i.val ∧ Nm i.val ≤ 578 ∧ 0 ≤ Mm i.val ∧ Mm i.val ≤ 2312 := by decide +kernel
theorem cl_if (v : Int) : cl v = if 2097152 < (if v < -2097152 then -2097152 else v) then 2097152 else if v < -2097152 then -2097152 else v := by
  unfold cl
  split <;> split <;> omega
theorem idx8 (x : Nat → Int) (k : Nat) (hk : k < 8) (w : World) : (Instr.index 45 (.agg (arr .i64 8 x)) (.int .i64 (k : Int))).run Tryd.prog w = .ok (.int .i64 (x k)) w :=
  run_index_arr w _ _ _ _ _ Tryd.underlying45 Tryd.underlying3 size_int _ _ hk

end Go.Proofs.YtmjjdehicngffaaDoor
