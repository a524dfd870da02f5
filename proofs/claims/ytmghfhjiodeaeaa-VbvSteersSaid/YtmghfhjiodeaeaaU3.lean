/- Which lists of access units are proper, in the program and in the reference. -/
import Derived.Test.YtmghfhjiodeaeaaU2
namespace Go.Proofs.Ytmghfhjiodeaeaa
open Go.RowKit

section
variable {ops : Array Oper} {rest : List Oper} {o : Oper} {a : Act} {w : World} {Q : Exit → Act → World → Prop} {X Y : Operand} {g : Nat} {s : Sq} {T ty : TypeId} {d : TypeDesc}
/-- A header out of its block, at an operation that is wanted. -/
theorem gldT (h : Blk w g T (sqA s)) (hw : Region.wanted o (yielded ops a.tmps) = true) (ho : o.op = .load ty X) (hx : a.eval X = .pointer (some ⟨g, 0, none⟩)) (hu : Try.prog.underlying ty = some d) (hd : d.isRow = true)
    (hi : (Try.prog.info? ty).map (·.size) = some (sqA s).size) (k : wpList Try.prog ops Q rest (a.put o.dst (.agg (sqA s))) w) : wpList Try.prog ops Q (o :: rest) a w :=
  wpList_step fun K hK => by
    rw [if_pos hw]
    exact wp_load_row _ X ho g hx _ _ (0, 0) _ h hu (by cases d <;> first | rfl | cases hd) hi (hK _ _ k)
/-- A unit out of a row. -/
theorem ldU {b off : Nat} {x : Un} (hc : w.rangeAt b off (u4 x)) (hgd : o.guard = none) (ho : o.op = .load 60 X) (hx : a.eval X = .pointer (some ⟨b, off, none⟩))
    (k : wpList Try.prog ops Q rest (a.put o.dst (.agg (u4 x).toArray)) w) : wpList Try.prog ops Q (o :: rest) a w :=
  wpList_load_mid hgd _ X ho b off hx (u4 x) _ hc Try.underlying60 rfl (by kernel_rfl) k
theorem alU (hgd : o.guard = none) (ho : o.op = .alloc 60) (k : ∀ g w', Blk w' g 60 (u4 ⟨0, 0, 0, 0⟩).toArray → Only [] w w' → w.heap.size ≤ g → wpList Try.prog ops Q rest (a.put o.dst (.pointer (some ⟨g, 0, none⟩))) w') : wpList Try.prog ops Q (o :: rest) a w :=
  wal (.agg (u4 ⟨0, 0, 0, 0⟩).toArray) _ hgd ho (by kernel_rfl) rfl k
theorem srU {x y : Un} (h : Blk w g 60 (u4 x).toArray) (hgd : o.guard = none) (ho : o.op = .store 60 X Y) (hx : a.eval X = .pointer (some ⟨g, 0, none⟩)) (hy : a.eval Y = .agg (u4 y).toArray)
    (k : ∀ w', Blk w' g 60 (u4 y).toArray → Only [g] w w' → w'.heap.size = w.heap.size → wpList Try.prog ops Q rest (a.put o.dst undef) w') : wpList Try.prog ops Q (o :: rest) a w :=
  wsr (u4 y).toArray h hgd ho hx hy (by kernel_rfl) rfl (by simp [u4, Value.oneCell']) k
end
theorem Reads.ur {w : World} {A : Option Addr} {n : Nat} {l : List Un} {i : Nat} {x : Un} (h : Reads w A 4 n (uV l)) (hl : l.length = n) (hi : l[i]? = some x) : ∃ b off, A = some ⟨b, off, none⟩ ∧ w.rangeAt b (off + i * 4) (u4 x) := by
  obtain ⟨b, off, rfl, h0, h1, h2, h3⟩ := h.un hl hi
  refine ⟨b, off, rfl, fun j u hu => ?_⟩
  match j, hu with
  | 0, hu => simp [u4] at hu; subst hu; exact h0
  | 1, hu => simp [u4] at hu; subst hu; exact h1
  | 2, hu => simp [u4] at hu; subst hu; exact h2
  | 3, hu => simp [u4] at hu; subst hu; exact h3
theorem Blk.un {w : World} {g : Nat} {T : TypeId} {x : Un} (h : Blk w g T (u4 x).toArray) : w.cell? ⟨g, 0, none⟩ = some (.int .i64 x.a) ∧ w.cell? ⟨g, 1, none⟩ = some (.int .i64 x.b) ∧ w.cell? ⟨g, 2, none⟩ = some (.int .i64 x.c) ∧ w.cell? ⟨g, 3, none⟩ = some (.int .i64 x.d) :=
  ⟨h.cell 0, h.cell 1, h.cell 2, h.cell 3⟩
def uok (x : Un) : Bool := decide (0 ≤ x.c) && decide (x.c ≤ 8388608) && (decide (x.d = 2) || decide (x.d = 3))
def prp (s : Sq) (us : List Un) (st : Int) : Bool := vs s && (decide (0 ≤ st) && (decide (st ≤ cap s) && (decide (us.length ≤ 256) && us.all uok)))
theorem all_take {us : List Un} {k : Nat} {x : Un} (h : us[k]? = some x) : (us.take (k + 1)).all uok = ((us.take k).all uok && uok x) := by
  rw [List.take_add_one, h]; simp
theorem all_false {us : List Un} {k : Nat} {x : Un} (h : us[k]? = some x) (hx : uok x = false) : us.all uok = false := by
  rw [List.all_eq_false]
  exact ⟨x, List.mem_of_getElem? h, by simp [hx]⟩
theorem uok_true {x : Un} (h : uok x = true) : 0 ≤ x.c ∧ x.c ≤ 8388608 ∧ (x.d = 2 ∨ x.d = 3) := by
  simpa [uok, and_assoc] using h
end Go.Proofs.Ytmghfhjiodeaeaa
