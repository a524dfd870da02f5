/- The code of a block as a plain function; contracts of the small functions of package block. -/
import Derived.Test.YtkojnmphgdlmdaaVr
import Derived.Test.YtkojnmphgdlmdaaVu
import Derived.Test.YtkojnmphgdlmdaaH64
import Derived.Test.YtkojnmphgdlmdaaRegM
namespace Go.Proofs.Ytkojnmphgdlmdaa
open Go.RowKit bt

def lvl (v : Int) : Bool := decide (-4095 ≤ v ∧ v ≤ 4095)
def rgB (x : Nat → Int) (f : Nat) : Bool := (List.range 64).all fun p => decide (p < f) || lvl (x p)
theorem rgB_true {x : Nat → Int} {f : Nat} : rgB x f = true ↔ ∀ p, p < 64 → f ≤ p → -4095 ≤ x p ∧ x p ≤ 4095 := by
  unfold rgB lvl
  rw [List.all_eq_true]
  constructor
  · intro h p hp hf
    have := h p (List.mem_range.2 hp)
    simp at this
    omega
  · intro h p hp
    have hp' := List.mem_range.1 hp
    by_cases hf : p < f
    · simp [hf]
    · have := h p hp' (by omega)
      simp [this]
theorem rgB_false {x : Nat → Int} {f p : Nat} (h : p < 64) (h1 : f ≤ p) (h2 : lvl (x p) = false) : rgB x f = false := by
  cases hr : rgB x f with
  | false => rfl
  | true => have := rgB_true.1 hr p h h1; unfold lvl at h2; simp at h2; omega
/-- The codes of the levels from position p on, k of them; a: the position behind the last coded level. -/
def bc (x : Nat → Int) : Nat → Nat → Nat → List Bool
  | 0, _, _ => []
  | k + 1, p, a => if x p = 0 then bc x k (p + 1) a else uCode ((p : Int) - a + 1) ++ (sCode (x p) ++ bc x k (p + 1) (p + 1))
theorem bc_le (x : Nat → Int) : ∀ (k p a : Nat), (bc x k p a).length ≤ 62 * k
  | 0, _, _ => by simp [bc]
  | k + 1, p, a => by
    simp only [bc]
    split
    · have := bc_le x k (p + 1) a; omega
    · have := bc_le x k (p + 1) (p + 1)
      have h1 := uCode_le ((p : Int) - a + 1)
      have h2 := sCode_le (x p)
      simp only [List.length_append]
      omega
def pErr (x : Nat → Int) (f : Int) : Int := if f = 0 ∨ f = 1 then (if rgB x f.toNat = true then 0 else 2) else 1
def bOut (x : Nat → Int) (f : Int) : List Bool := if pErr x f = 0 then bc x (64 - f.toNat) f.toNat f.toNat ++ uCode 0 else []
theorem bOut_le (x : Nat → Int) (f : Int) : (bOut x f).length ≤ 4000 := by
  unfold bOut
  split
  · have := bc_le x (64 - f.toNat) f.toNat f.toNat
    have h2 := uCode_le 0
    rw [List.length_append]
    omega
  · simp
/-- How far a walk through the levels has come. -/
structure BI (x : Nat → Int) (f p a : Nat) (l : List Bool) : Prop where
  le : a ≤ p
  eq : bc x (64 - f) f f = l ++ bc x (64 - p) p a
theorem BI.start (x : Nat → Int) (f : Nat) : BI x f f f [] := ⟨Nat.le_refl _, by simp⟩
theorem BI.skip {x : Nat → Int} {f p a : Nat} {l : List Bool} (h : BI x f p a l) (hp : p < 64) (hx : x p = 0) : BI x f (p + 1) a l := by
  refine ⟨Nat.le_succ_of_le h.le, ?_⟩
  rw [h.eq]
  obtain ⟨k, hk⟩ : ∃ k, 64 - p = k + 1 := ⟨63 - p, by omega⟩
  rw [hk, show 64 - (p + 1) = k by omega, bc, if_pos hx]
theorem BI.put {x : Nat → Int} {f p a : Nat} {l : List Bool} (h : BI x f p a l) (hp : p < 64) (hx : x p ≠ 0) : BI x f (p + 1) (p + 1) ((l ++ uCode ((p : Int) - a + 1)) ++ sCode (x p)) := by
  refine ⟨Nat.le_refl _, ?_⟩
  rw [h.eq]
  obtain ⟨k, hk⟩ : ∃ k, 64 - p = k + 1 := ⟨63 - p, by omega⟩
  rw [hk, show 64 - (p + 1) = k by omega, bc, if_neg hx]
  simp
theorem BI.len {x : Nat → Int} {f p a : Nat} {l : List Bool} (h : BI x f p a l) : l.length ≤ 3968 := by
  have h1 := congrArg List.length h.eq
  have h2 := bc_le x (64 - f) f f
  rw [List.length_append] at h1
  omega
theorem BI.done {x : Nat → Int} {f a : Nat} {l : List Bool} (h : BI x f 64 a l) : bc x (64 - f) f f = l := by
  rw [h.eq]; simp [bc]
theorem pErr_bad {x : Nat → Int} {f : Int} (h : ¬ (f = 0 ∨ f = 1)) : pErr x f = 1 ∧ bOut x f = [] := by
  have : pErr x f = 1 := by unfold pErr; rw [if_neg h]
  refine ⟨this, ?_⟩
  unfold bOut; rw [this, if_neg (by omega)]
theorem pErr_rng {x : Nat → Int} {f : Int} (h : f = 0 ∨ f = 1) (hr : rgB x f.toNat = false) : pErr x f = 2 ∧ bOut x f = [] := by
  have : pErr x f = 2 := by unfold pErr; rw [if_pos h, if_neg (by simp [hr])]
  refine ⟨this, ?_⟩
  unfold bOut; rw [this, if_neg (by omega)]
theorem pErr_ok {x : Nat → Int} {f : Int} (h : f = 0 ∨ f = 1) (hr : rgB x f.toNat = true) : pErr x f = 0 ∧ bOut x f = bc x (64 - f.toNat) f.toNat f.toNat ++ uCode 0 := by
  have : pErr x f = 0 := by unfold pErr; rw [if_pos h, if_pos hr]
  refine ⟨this, ?_⟩
  unfold bOut; rw [this, if_pos rfl]
def vst (f : Int) : Bool := decide (f = 0 ∨ f = 1)
theorem validStart_any (w : World) (f : Int) : Calls Try.prog 24 #[.int .i64 f] w fun e w' => e = .returned (.bool (vst f)) ∧ w = w' := by
  go_enter Try.func24, Try.ntmps24
  by_cases h0 : f = 0
  · subst h0
    go_wp2_with fail
    go_ret
    exact ⟨rfl, rfl⟩
  · have hd : (f == 0) = false := by simpa using h0
    have e : vst f = (f == 1) := by unfold vst; simp [h0]; rfl
    have He := Lib.hid e
    clear e h0
    go_wp2_with fail
    go_ret
    exact ⟨by rw [He.out]; rfl, rfl⟩
theorem allowed_any (w : World) (v : Int) : Calls Try.prog 39 #[.int .i64 v] w fun e w' => e = .returned (.bool (lvl v)) ∧ w = w' := by
  go_enter Try.func39, Try.ntmps39
  by_cases h0 : -4095 ≤ v
  · have He := Lib.hid (show lvl v = decide (v ≤ 4095) by unfold lvl; simp [h0])
    go_wp2_with fail
    go_ret
    exact ⟨by rw [He.out]; rfl, rfl⟩
  · have He := Lib.hid (show lvl v = false by unfold lvl; simp [h0])
    have hd : decide (-4095 ≤ v) = false := decide_eq_false h0
    clear h0
    go_wp2_with fail
    go_ret
    exact ⟨by rw [He.out]; rfl, rfl⟩
theorem level_any (w : World) (v : Int) : Calls Try.prog 28 #[.int .i64 v] w fun e w' => e = .returned (.bool (lvl v)) ∧ w = w' := by
  go_enter Try.func28, Try.ntmps28
  by_cases h0 : -4095 ≤ v
  · have He := Lib.hid (show lvl v = decide (v ≤ 4095) by unfold lvl; simp [h0])
    go_wp2_with fail
    go_ret
    exact ⟨by rw [He.out]; rfl, rfl⟩
  · have He := Lib.hid (show lvl v = false by unfold lvl; simp [h0])
    have hd : decide (-4095 ≤ v) = false := decide_eq_false h0
    clear h0
    go_wp2_with fail
    go_ret
    exact ⟨by rw [He.out]; rfl, rfl⟩
/-- A whole array out of its block, at an operation under a guard that is met. -/
theorem gld64 {ops : Array Oper} {rest : List Oper} {o : Oper} {a : Act} {w : World} {Q : Exit → Act → World → Prop} {g : Nat} {x : Nat → Int} {X : Operand} (h : Blk w g 23 (arr .i64 64 x)) (hw : Region.wanted o (yielded ops a.tmps) = true) (ho : o.op = .load 23 X) (hx : a.eval X = .pointer (some ⟨g, 0, none⟩))
    (k : wpList Try.prog ops Q rest (a.put o.dst (.agg (arr .i64 64 x))) w) : wpList Try.prog ops Q (o :: rest) a w :=
  wpList_step fun K hK => by
    rw [if_pos hw]
    exact wp_load_row _ X ho g hx _ _ (0, 0) _ h Try.underlying23 rfl (info_of_arr _) (hK _ _ k)
/-- A boxed array from position f on, as a slice. -/
theorem run_sl64 (w : World) (g f : Nat) (hf : f ≤ 63) : (Instr.sliceAt 23 (.pointer (some ⟨g, 0, none⟩)) (some (.int .i64 (f : Int))) none none).run Try.prog w = .ok (.slice (some ⟨g, f, none⟩) (64 - f) (64 - f)) w := by
  have h1 := run_sliceBound (P := Try.prog) (w := w) .i64 (f : Int) 64 .sliceB (by omega) (by omega)
  obtain ⟨i, hi, hz⟩ : ∃ i, Try.prog.info? 3 = some i ∧ i.size = 1 := by
    have : (Try.prog.info? 3).map (·.size) = some 1 := by kernel_rfl
    cases h : Try.prog.info? 3 with
    | none => rw [h] at this; cases this
    | some i => rw [h] at this; simp at this; exact ⟨i, rfl, this⟩
  simp [Instr.sliceAt, run_underlying Try.underlying23, Instr.sliceBounds, Instr.sureAddr, sizeOf, typeInfo, hi, hz, h1, add_plain]
  omega
theorem sl64 {ops : Array Oper} {rest : List Oper} {o : Oper} {a : Act} {w : World} {Q : Exit → Act → World → Prop} {X L : Operand} {g f : Nat} (hf : f ≤ 63) (hgd : o.guard = none) (ho : o.op = .slice 23 X (some L) none none) (hx : a.eval X = .pointer (some ⟨g, 0, none⟩)) (hl : a.eval L = .int .i64 (f : Int))
    (k : wpList Try.prog ops Q rest (a.put o.dst (.slice (some ⟨g, f, none⟩) (64 - f) (64 - f))) w) : wpList Try.prog ops Q (o :: rest) a w := by
  refine wpList_plain hgd fun K hK => ?_
  unfold Oper.wp execOp
  simp only [ho, Option.map_some, Option.map_none, hx, hl, Sem.run_bind, run_sl64 w g f hf, Result.andThen_ok]
  exact hK _ _ k
theorem inRange_any (w : World) (x : Nat → Int) (f : Nat) (hf : f ≤ 1) : Calls Try.prog 25 #[.agg (arr .i64 64 x), .int .i64 (f : Int)] w fun e w' => e = .returned (.bool (rgB x f)) ∧ Only [] w w' := by
  go_enter Try.func25, Try.ntmps25
  have tok : True := trivial
  have tok2 : True := trivial
  have hnat : ((64 - f : Nat) : Int) = 64 - (f : Int) := by omega
  go_wp2_with (first | (clear tok; refine bx64 (x := x) rfl rfl rfl ?_; rintro g1 w1 b1 o1 l1) | (clear tok2; refine sl64 (f := f) (by omega) rfl rfl rfl rfl ?_))
  go_loopw [10] (fun i wr => ∃ k : Nat, k + f ≤ 64 ∧ i = .int .i64 (k : Int) ∧ Hid (∀ j, j < k → lvl (x (f + j)) = true) ∧ w1 = wr) (fun i _ => 64 - (intOf i).toNat)
  case atStart => exact ⟨0, by omega, rfl, fun j h => by omega, rfl⟩
  case round =>
    obtain ⟨k, hk, rfl, HA, rfl⟩ := hrel
    by_cases hlt : k + f < 64
    · have hc := b1.cell (f + k)
      rw [arr_get (by omega)] at hc
      have hkl : (k : Int) < 64 - (f : Int) := by omega
      go_wp2_with fail
      refine (allowed_any _ _).mono ?_
      rintro e w2 ⟨rfl, rfl⟩
      cases hl : lvl (x (f + k)) with
      | true =>
        have HA2 := Lib.hid (show ∀ j, j < k + 1 → lvl (x (f + j)) = true from fun j hj => by
          by_cases h : j = k
          · subst h; exact hl
          · exact HA.out j (by omega))
        clear hl
        go_wp2_with fail
        go_roundw
        case rel => exact ⟨k + 1, by omega, by go_num, HA2, trivial⟩
        case measure => simp [intOf]; omega
      | false =>
        have He := Lib.hid (rgB_false (x := x) (f := f) (p := f + k) (by omega) (by omega) hl)
        clear hl
        go_wp2_with fail
        go_ret
        exact ⟨by rw [He.out]; rfl, o1⟩
    · have hkl : 64 - (f : Int) ≤ (k : Int) := by omega
      have He := Lib.hid (show rgB x f = true from rgB_true.2 fun p hp hfp => by
        have := HA.out (p - f) (by omega)
        rw [show f + (p - f) = p by omega] at this
        unfold lvl at this; simpa using this)
      go_wp2_with fail
      go_ret
      exact ⟨by rw [He.out]; rfl, o1⟩
end Go.Proofs.Ytkojnmphgdlmdaa
