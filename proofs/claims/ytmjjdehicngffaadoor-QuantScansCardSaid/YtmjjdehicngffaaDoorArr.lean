/- Arrays of integers by value: their cells as a function of the index; equality of two arrays. Plain lemmas, no condition. -/
import Derived.Test.YtmjjdehicngffaaDoorBase
import Derived.Laws.Rows
import Derived.Deep.WholeRow
import Derived.Deep.MidRow
import Derived.ChangeKeysEq
namespace Go.Proofs.YtmjjdehicngffaaDoor
open Go.RowKit

/-- The cells of an array of n integers, as a list. -/
def rowL (k : IntKind) (n : Nat) (x : Nat → Int) : List Value := (List.range n).map fun j => Value.int k (x j)
/-- The cells of an array of n integers. -/
def arr (k : IntKind) (n : Nat) (x : Nat → Int) : Array Value := (rowL k n x).toArray
/-- The first m elements of x; the others are 0. -/
def upto (m : Nat) (x : Nat → Int) : Nat → Int := fun j => if j < m then x j else 0
/-- x, with v at index m and zeros behind. -/
def uptoV (m : Nat) (x : Nat → Int) (v : Int) : Nat → Int := fun j => if j < m then x j else if j = m then v else 0
def upd (x : Nat → Int) (m : Nat) (v : Int) : Nat → Int := fun j => if j = m then v else x j

section
variable {k : IntKind} {n : Nat} {x y : Nat → Int}
theorem arr_size : (arr k n x).size = n := by simp [arr, rowL]
theorem arr_get {j : Nat} (h : j < n) : (arr k n x)[j]? = some (.int k (x j)) := by simp [arr, rowL, h]
theorem arr_congr (h : ∀ j, j < n → x j = y j) : arr k n x = arr k n y := by
  unfold arr rowL
  congr 1
  apply List.map_congr_left
  intro j hj
  rw [h j (by simpa using hj)]
theorem arr_set {j : Nat} (v : Int) (h : j < n) : (arr k n x).setIfInBounds j (.int k v) = arr k n (upd x j v) := by
  apply Array.ext_getElem?
  intro i
  rw [Array.getElem?_setIfInBounds]
  by_cases hij : j = i
  · subst hij
    simp [h, arr, rowL, upd]
  · rw [if_neg hij]
    by_cases hi : i < n
    · rw [arr_get hi, arr_get hi]; simp [upd, Ne.symm hij]
    · rw [Array.getElem?_eq_none (by rw [arr_size]; omega), Array.getElem?_eq_none (by rw [arr_size]; omega)]
theorem arr_set_upto {m : Nat} {v : Int} (h : m < n) (hv : x m = v) : (arr k n (upto m x)).setIfInBounds m (.int k v) = arr k n (upto (m + 1) x) := by
  rw [arr_set v h]
  apply arr_congr
  intro j _
  unfold upd upto
  by_cases h1 : j = m
  · subst h1; simp [hv]
  · rw [if_neg h1]
    by_cases h2 : j < m
    · rw [if_pos h2, if_pos (by omega)]
    · rw [if_neg h2, if_neg (by omega)]
theorem arr_upto_zero : arr k n (upto 0 x) = arr k n (fun _ => 0) := arr_congr (fun j _ => by simp [upto])
theorem arr_upto_all {m : Nat} (h : n ≤ m) : arr k n (upto m x) = arr k n x := arr_congr (fun j hj => by unfold upto; rw [if_pos (by omega)])
theorem arr_uptoV_zero {m : Nat} : arr k n (uptoV m x 0) = arr k n (upto m x) := arr_congr (fun j _ => by unfold upto uptoV; split <;> simp)
theorem arr_uptoV_last {m : Nat} : arr k n (uptoV m x (x m)) = arr k n (upto (m + 1) x) := arr_congr (fun j _ => by
  unfold upto uptoV
  by_cases h1 : j < m
  · rw [if_pos h1, if_pos (by omega)]
  · rw [if_neg h1]
    by_cases h2 : j = m
    · subst h2; simp
    · rw [if_neg h2, if_neg (by omega)])
theorem arr_set_uptoV {m : Nat} {u v : Int} (h : m < n) : (arr k n (uptoV m x u)).setIfInBounds m (.int k v) = arr k n (uptoV m x v) := by
  rw [arr_set v h]
  apply arr_congr
  intro j _
  unfold upd uptoV
  by_cases h1 : j = m
  · subst h1; simp
  · rw [if_neg h1, if_neg h1]; simp [h1]
theorem arr_one : (arr k n x).all (·.oneCell') = true := by
  rw [Array.all_eq_true_iff_forall_mem]
  intro v hv
  simp [arr, rowL] at hv
  obtain ⟨j, _, rfl⟩ := hv
  rfl
theorem rowL_length : (rowL k n x).length = n := by simp [rowL]
theorem Blk.range {w : World} {g : Nat} {t : TypeId} (h : Blk w g t (arr k n x)) : w.rangeAt g 0 (rowL k n x) := by
  intro j v hv
  have := h.cell (0 + j)
  rw [this]
  simpa [arr] using hv
theorem uptoV_at {m : Nat} {v : Int} : uptoV m x v m = v := by simp [uptoV]
end
theorem Only.setRow {F : List Nat} {a w : World} (h : Only F a w) {g : Nat} (hp : g ∈ F ∨ a.heap.size ≤ g) (cs : Array Value) : Only F a (w.setRow g cs) :=
  ⟨h.os, h.tape, h.output, by simpa using h.size, fun k hk hn => (setRow_other w g k cs (by
    rintro rfl
    rcases hp with hp | hp
    · exact hn hp
    · omega)).trans (h.block k hk hn)⟩
theorem Blk.row {w : World} {g : Nat} {t : TypeId} {cs : Array Value} (h : Blk w g t cs) (cs' : Array Value) : Blk (w.setRow g cs') g t cs' := setRow_heap w g cs cs' t (0, 0) h
theorem Blk.off_row {w : World} {g g' : Nat} {t : TypeId} {cs : Array Value} (h : Blk w g t cs) (hg : g ≠ g') (cs' : Array Value) : Blk (w.setRow g' cs') g t cs := (setRow_other w g' g cs' hg).trans h
def eqTo (n : Nat) (x y : Nat → Int) : Bool := (List.range n).all fun j => x j == y j
theorem eqTo_true {n : Nat} {x y : Nat → Int} : eqTo n x y = true ↔ ∀ j, j < n → x j = y j := by simp [eqTo]
theorem eqTo_of {n : Nat} {x y : Nat → Int} (h : ∀ j, j < n → x j = y j) : eqTo n x y = true := eqTo_true.2 h

section
variable {P : Program}
theorem run_eqItems_arr (w : World) (d : Nat) (e : TypeId) (k : IntKind) (n : Nat) (x y : Nat → Int) (he : P.underlying e = some (.int k)) (hc : P.cellsOf e = 1) :
    ∀ l : List Nat, (∀ j ∈ l, j < n) → (Op.eqItems (d + 1) e (P.cellsOf e) (arr k n x) (arr k n y) l).run P w = .ok (l.all fun j => x j == y j) w
  | [], _ => by simp [Op.eqItems]
  | j :: l, h => by
    have hj : j < n := h j (by simp)
    have px : ∀ z : Nat → Int, (part e (arr k n z) (j * P.cellsOf e)).run P w = .ok (.int k (z j)) w := by
      intro z
      have : (arr k n z)[j]? = some (.int k (z j)) := arr_get hj
      simp [part, isAgg, run_underlying he, hc, this]
    have ih := run_eqItems_arr w d e k n x y he hc l (fun i hi => h i (by simp [hi]))
    simp only [Op.eqItems, Sem.run_bind, px, Result.andThen_ok, run_equalIn_int w d e k k _ _ he, List.all_cons]
    cases hb : (x j == y j)
    · simp
    · simp only [Bool.not_true, Bool.false_eq_true, if_false, Bool.true_and]
      exact ih
theorem run_eql_arr (w : World) (t e : TypeId) (k : IntKind) (n : Nat) (i : TypeInfo) (x y : Nat → Int) (ht : P.underlying t = some (.array n e)) (he : P.underlying e = some (.int k)) (hi : P.info? e = some i) (hc : P.cellsOf e = 1) :
    (binOp .eql t (.agg (arr k n x)) (.agg (arr k n y))).run P w = .ok (.bool (eqTo n x y)) w := by
  rw [run_eql_struct, show (10000 : Nat) = 9998 + 1 + 1 from rfl, run_equalIn_array w 9999 _ _ ht hi, run_eqItems_arr w 9998 e k n x y he hc _ (by simp)]
  rfl
theorem run_index_arr (w : World) (t e : TypeId) (k : IntKind) (n : Nat) (x : Nat → Int) (ht : P.underlying t = some (.array n e)) (he : P.underlying e = some (.int k)) (hs : ∀ w, (sizeOf e).run P w = .ok 1 w) (ki : IntKind) (j : Nat) (hj : j < n) :
    (Instr.index t (.agg (arr k n x)) (.int ki (j : Int))).run P w = .ok (.int k (x j)) w := by
  have h1 : (arr k n x)[j]? = some (.int k (x j)) := arr_get hj
  have h2 : (0 : Int) ≤ (j : Int) ∧ (j : Int) < (n : Int) := by omega
  simp only [Instr.index, asIntOf, Sem.run_bind, Sem.run_pure, Result.andThen_ok, run_underlying ht, if_pos h2, hs, part, isAgg, run_underlying he, Int.toNat_natCast, Nat.mul_one]
  simp [h1]
end
end Go.Proofs.YtmjjdehicngffaaDoor
