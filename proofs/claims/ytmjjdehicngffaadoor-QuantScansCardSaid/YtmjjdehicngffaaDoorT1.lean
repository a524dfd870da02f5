/- Contracts of the helpers of chapter 5's laws: within, block. -/
import Derived.Test.YtmjjdehicngffaaDoorProg
import Derived.Test.YtmjjdehicngffaaDoorArr
namespace Go.Proofs.YtmjjdehicngffaaDoor
open Go.RowKit

/-- All 64 numbers are from -m to m. -/
def inside (x : Nat → Int) (m : Int) (n : Nat) : Bool := (List.range n).all fun j => decide (-m ≤ x j ∧ x j ≤ m)
theorem inside_true {x : Nat → Int} {m : Int} {n : Nat} : inside x m n = true ↔ ∀ j, j < n → -m ≤ x j ∧ x j ≤ m := by simp [inside]
theorem inside_succ {x : Nat → Int} {m : Int} {n : Nat} (h : inside x m n = true) (h' : -m ≤ x n ∧ x n ≤ m) : inside x m (n + 1) = true := by
  rw [inside_true] at h ⊢
  intro j hj
  rcases Nat.lt_or_ge j n with h1 | h1
  · exact h j h1
  · obtain rfl : j = n := by omega
    exact h'
theorem inside_false {x : Nat → Int} {m : Int} {n j : Nat} (h : j < n) (h' : ¬ (-m ≤ x j ∧ x j ≤ m)) : inside x m n = false := by
  rw [Bool.eq_false_iff]
  intro ht
  exact h' (inside_true.1 ht j h)
def I64 (n : Nat) (x : Nat → Int) : Prop := ∀ j, j < n → -9223372036854775808 ≤ x j ∧ x j ≤ 9223372036854775807

theorem Blk.new2 (w : World) (t : TypeId) (o : Obj) (cs : Array Value) : Blk ((w.alloc o).alloc (.cells cs t)) (w.heap.size + 1) t cs := by
  have := Blk.new (w.alloc o) t cs
  simpa using this
/-- From a world to any world of which the same is known. -/
theorem at_world {P : Program} {Φ : World → Prop} {c : Code} {Q : Exit → Act → World → Prop} {a : Act} {w1 : World} (hΦ : Φ w1) (h : ∀ w2, Φ w2 → Code.wp P c Q a w2) : Code.wp P c Q a w1 := h _ hΦ
theorem at_worldL {P : Program} {Φ : World → Prop} {ops : Array Oper} {rest : List Oper} {Q : Exit → Act → World → Prop} {a : Act} {w1 : World} (hΦ : Φ w1) (h : ∀ w2, Φ w2 → wpList P ops Q rest a w2) : wpList P ops Q rest a w1 := h _ hΦ
theorem info_arr64 : (Tryd.prog.info? 23).map (·.size) = some 64 := by kernel_rfl
theorem info_of_arr (x : Nat → Int) : (Tryd.prog.info? 23).map (·.size) = some (arr .i64 64 x).size := by rw [arr_size]; exact info_arr64

section
variable {ops : Array Oper} {rest : List Oper} {o : Oper} {a : Act} {w : World} {Q : Exit → Act → World → Prop} {g : Nat} {x y : Nat → Int} {X Y : Operand}
/-- A whole array out of its block. -/
theorem ld64 (h : Blk w g 23 (arr .i64 64 x)) (hgd : o.guard = none) (ho : o.op = .load 23 X) (hx : a.eval X = .pointer (some ⟨g, 0, none⟩))
    (k : wpList Tryd.prog ops Q rest (a.put o.dst (.agg (arr .i64 64 x))) w) : wpList Tryd.prog ops Q (o :: rest) a w :=
  wpList_load_row hgd 23 X ho g hx 23 _ (0, 0) _ h Tryd.underlying23 rfl (info_of_arr _) k
/-- A whole array into its block. -/
theorem st64 (h : Blk w g 23 (arr .i64 64 x)) (hgd : o.guard = none) (ho : o.op = .store 23 X Y) (hx : a.eval X = .pointer (some ⟨g, 0, none⟩)) (hy : a.eval Y = .agg (arr .i64 64 y))
    (k : wpList Tryd.prog ops Q rest (a.put o.dst undef) (w.setRow g (arr .i64 64 y))) : wpList Tryd.prog ops Q (o :: rest) a w :=
  wpList_store_row hgd 23 X Y ho g _ hx hy 23 _ h (info_of_arr _) (by rw [arr_size, arr_size]) arr_one k
/-- The one result, out of its cell. -/
theorem res64 {fn : Func} {p : Tmp} (h : fn.results = #[.cell p 23]) {tmps : Array Value} (hb : Blk w g 23 (arr .i64 64 x)) (hp : tmps.getD p undef = .pointer (some ⟨g, 0, none⟩)) :
    (results fn tmps).run Tryd.prog w = .ok (.agg (arr .i64 64 x)) w :=
  results_cell_row h tmps w g 23 _ (0, 0) _ hp hb Tryd.underlying23 rfl (info_of_arr _)
end

/-- The block of a list. -/
def blockOf (l : List Int) : Nat → Int := fun j => l.getD j 0
theorem block_any (w : World) (A : Option Addr) (c : Nat) (l : List Int) (hr : Reads w A 1 l.length (l.map (Value.int .i64))) (hm : l.length ≤ maxLen) :
    Calls Tryd.prog 4 #[.slice A l.length c] w fun e w' => e = .returned (.agg (arr .i64 64 (blockOf l))) ∧ Only [] w w' := by
  have hm' : (l.length : Int) ≤ 9223372036854775807 := by simp only [maxLen] at hm; omega
  go_enter Tryd.func4, Tryd.ntmps4
  go_wp2_with fail
  refine at_world (Φ := fun w1 => Only [] w w1 ∧ w.heap.size + 2 ≤ w1.heap.size ∧ Blk w1 w.heap.size 23 (arr .i64 64 fun _ => 0) ∧ Blk w1 (w.heap.size + 1) 23 (arr .i64 64 fun _ => 0))
    ⟨((Only.refl _ _).alloc _).alloc _, by simp, (Blk.new _ _ _).alloc _, by exact Blk.new2 w 23 _ (arr .i64 64 fun _ => 0)⟩ ?_
  rintro w1 ⟨ho1, hs1, hb0, hb1⟩
  have hr1 := hr.then ho1
  have hg0 : w.heap.size ≤ w.heap.size := Nat.le_refl _
  have hg1 : w.heap.size < w.heap.size + 1 := Nat.lt_succ_self _
  generalize w.heap.size + 1 = g1 at hb1 hg1
  generalize hg : w.heap.size = g0 at hb0 hg0 hg1
  have HG := Lib.hid hg
  clear hg
  rw [← arr_upto_zero (x := blockOf l)] at hb1
  go_loopw [4] (fun i wr => ∃ k : Nat, k ≤ 64 ∧ k ≤ l.length ∧ i = .int .i64 k ∧ Only [] w wr ∧ Only [g1] w1 wr ∧ Blk wr g1 23 (arr .i64 64 (upto k (blockOf l)))) (fun i _ => 64 - (intOf i).toNat)
  case atStart => exact ⟨0, by omega, by omega, rfl, ho1, Only.refl _ _, hb1⟩
  case round =>
    obtain ⟨k, hk, hkl, rfl, ho, hoo, hb⟩ := hrel
    by_cases hlt : k < 64
    · have hd : decide ((k : Int) < 64) = true := by simp; omega
      by_cases hl : k < l.length
      · have hd2 : decide ((k : Int) < (l.length : Int)) = true := by simp; omega
        have hrr := hr.then ho
        obtain ⟨b, off, rfl, hc⟩ := hrr.plain (by omega) (by omega)
        have hlk : blockOf l k = l[k] := by simp [blockOf, hl]
        have hck : wr.cell? ⟨b, off + k, none⟩ = some (.int .i64 (blockOf l k)) := hc k _ (by simp [hl, hlk])
        have hcg := hb.cell k
        rw [arr_get hlt] at hcg
        have hfz := hb.frozen k
        have On := Lib.hid (ho.setCell (p := ⟨g1, k, none⟩) (.inr (by have := HG.out; show _ ≤ g1; omega)) (.int .i64 (blockOf l k)))
        have Onn := Lib.hid (hoo.setCell (p := ⟨g1, k, none⟩) (.inl (by simp)) (.int .i64 (blockOf l k)))
        have Hb := Lib.hid (show Blk (wr.setCell ⟨g1, k, none⟩ (.int .i64 (blockOf l k))) g1 23 (arr .i64 64 (upto (k + 1) (blockOf l))) from by have := hb.set_ k (.int .i64 (blockOf l k)); rwa [arr_set_upto hlt rfl] at this)
        have Hlk := Lib.hid hlk
        clear hlk hc hrr
        go_wp2
        go_roundw
        case rel => exact ⟨k + 1, by omega, by omega, by go_num, On.out, Onn.out, Hb.out⟩
        case measure => simp [intOf]; omega
      · have hd2 : decide ((k : Int) < (l.length : Int)) = false := by simp; omega
        have hbe : Blk wr g1 23 (arr .i64 64 (blockOf l)) := by
          rw [arr_congr (y := blockOf l)] at hb
          · exact hb
          · intro j hj
            unfold upto blockOf
            split
            · rfl
            · have : l.length ≤ j := by omega
              simp [List.getD, List.getElem?_eq_none this]
        have h0 := hb0.only hoo (by simp; omega)
        go_wp2_with (first | refine ld64 hbe rfl rfl rfl ?_ | refine st64 h0 rfl rfl rfl rfl ?_)
        exact bodyPost_ret (res64 rfl (h0.row _) rfl) rfl ⟨rfl, ho.setRow (.inr (by have := HG.out; omega)) _⟩
    · obtain rfl : k = 64 := by omega
      rw [arr_upto_all (by omega)] at hb
      have h0 := hb0.only hoo (by simp; omega)
      go_wp2_with (first | refine ld64 hb rfl rfl rfl ?_ | refine st64 h0 rfl rfl rfl rfl ?_)
      exact bodyPost_ret (res64 rfl (h0.row _) rfl) rfl ⟨rfl, ho.setRow (.inr (by have := HG.out; omega)) _⟩
end Go.Proofs.YtmjjdehicngffaaDoor
