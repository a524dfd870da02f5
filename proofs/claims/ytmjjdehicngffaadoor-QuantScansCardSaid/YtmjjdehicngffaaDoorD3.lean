/- zigzag over a contract of its sort; Scan. -/
import Derived.Test.YtmjjdehicngffaaDoorD2
namespace Go.Proofs.YtmjjdehicngffaaDoor
open Go.RowKit

/-- The first row of diagonal s, and how many rows it has. -/
def lo (s : Nat) : Nat := s - 7
def ct (s : Nat) : Nat := min s 7 + 1 - lo s
theorem dg_facts {s : Nat} (h : s < 15) : cn (8 * s) + ct s = cn (8 * (s + 1)) ∧ cn (8 * (s + 1)) ≤ 64 ∧ 1 ≤ ct s ∧ ct s ≤ 8 ∧ ∀ k, k < ct s → sc false (cn (8 * s) + k) = 7 * (lo s + (if s % 2 = 0 then ct s - 1 - k else k)) + s := by
  have : ∀ s : Fin 15, cn (8 * s.val) + ct s.val = cn (8 * (s.val + 1)) ∧ cn (8 * (s.val + 1)) ≤ 64 ∧ 1 ≤ ct s.val ∧ ct s.val ≤ 8 ∧ ∀ k : Fin 8, k.val < ct s.val → sc false (cn (8 * s.val) + k.val) = 7 * (lo s.val + (if s.val % 2 = 0 then ct s.val - 1 - k.val else k.val)) + s.val := by decide +kernel
  obtain ⟨h1, h2, h3, h4, h5⟩ := this ⟨s, h⟩
  exact ⟨h1, h2, h3, h4, fun k hk => h5 ⟨k, by simp only at h4; omega⟩ hk⟩
/-- The order ahead of diagonal s, and j rows of it. -/
def mid (s j : Nat) : Nat → Int := fun i => if i < cn (8 * s) then scV false i else if i < cn (8 * s) + j then ((7 * (lo s + (i - cn (8 * s))) + s : Nat) : Int) else 0
theorem mid_zero {k : IntKind} (s : Nat) : arr k 64 (mid s 0) = arr k 64 (upto (cn (8 * s)) (scV false)) := arr_congr (fun j _ => by
  unfold mid upto
  by_cases h : j < cn (8 * s)
  · rw [if_pos h, if_pos h]
  · rw [if_neg h, if_neg h, if_neg (by omega)])
theorem mid_step {k : IntKind} {s j p : Nat} {v : Int} (hp : p = cn (8 * s) + j) (h : p < 64) (hv : v = ((7 * (lo s + j) + s : Nat) : Int)) : (arr k 64 (mid s j)).setIfInBounds p (.int k v) = arr k 64 (mid s (j + 1)) := by
  rw [arr_set v h]
  apply arr_congr
  intro i _
  unfold upd mid
  by_cases h1 : i = p
  · rw [if_pos h1, if_neg (by omega), if_pos (by omega), hv]
    congr 4
    omega
  · rw [if_neg h1]
    by_cases h2 : i < cn (8 * s)
    · rw [if_pos h2, if_pos h2]
    · rw [if_neg h2, if_neg h2]
      by_cases h3 : i < cn (8 * s) + j
      · rw [if_pos h3, if_pos (by omega)]
      · rw [if_neg h3, if_neg (by omega)]
/-- What is asked of the sort. -/
def SortC : Prop := ∀ (w : World) (g gs s : Nat), s < 15 → Blk w g 23 (arr .i64 64 (mid s (ct s))) → Blk w gs 3 #[.int .i64 (s : Int)] →
  Calls Tryd.prog 19 #[.slice (some ⟨g, cn (8 * s), none⟩) (ct s) (64 - cn (8 * s)), .func (.func 20) #[] #[.pointer (some ⟨gs, 0, none⟩)]] w fun e w' =>
    e = .returned (.tuple #[]) ∧ Only [g] w w' ∧ Blk w' g 23 (arr .i64 64 (upto (cn (8 * (s + 1))) (scV false)))
theorem zeroInt : (Tryd.prog.info? 3).map (·.zero) = some (some (.int .i64 0)) := by kernel_rfl
section
variable {ops : Array Oper} {rest : List Oper} {o : Oper} {a : Act} {w : World} {Q : Exit → Act → World → Prop} {X Y Z : Operand}
theorem arm_min {ts : Array TypeId} (x y m : Int) (hm : (if y < x then y else x) = m) (hgd : o.guard = none) (ho : o.op = .call { callee := .builtin .min, args := #[X, Y], argTypes := ts }) (hx : a.eval X = .int .i64 x) (hy : a.eval Y = .int .i64 y)
    (k : wpList Tryd.prog ops Q rest (a.put o.dst (.int .i64 m)) w) : wpList Tryd.prog ops Q (o :: rest) a w := by
  refine wpList_plain hgd fun K hK => ?_
  unfold Oper.wp execOp
  simp only [ho, resolve, invoke, builtin, Sem.run_bind, Sem.run_pure, Result.andThen_ok, List.map_toArray, List.map_cons, List.map_nil, hx, hy, run_min_int2, hm]
  exact hK _ _ k
theorem arm_max {ts : Array TypeId} (x y m : Int) (hm : (if y > x then y else x) = m) (hgd : o.guard = none) (ho : o.op = .call { callee := .builtin .max, args := #[X, Y], argTypes := ts }) (hx : a.eval X = .int .i64 x) (hy : a.eval Y = .int .i64 y)
    (k : wpList Tryd.prog ops Q rest (a.put o.dst (.int .i64 m)) w) : wpList Tryd.prog ops Q (o :: rest) a w := by
  refine wpList_plain hgd fun K hK => ?_
  unfold Oper.wp execOp
  simp only [ho, resolve, invoke, builtin, Sem.run_bind, Sem.run_pure, Result.andThen_ok, List.map_toArray, List.map_cons, List.map_nil, hx, hy, run_max_int2, hm]
  exact hK _ _ k
theorem run_asl (w : World) (g l h : Nat) (h1 : l ≤ h) (h2 : h ≤ 64) (h3 : l < 64) : (Instr.sliceAt 23 (.pointer (some ⟨g, 0, none⟩)) (some (.int .i64 (l : Int))) (some (.int .i64 (h : Int))) none).run Tryd.prog w = .ok (.slice (some ⟨g, l, none⟩) (h - l) (64 - l)) w := by
  have hl : Tryd.prog.arrayLen 23 = 64 := by kernel_rfl
  have he : Tryd.prog.elem 23 = 3 := by kernel_rfl
  have hr := run_sliceAt_array_lh (P := Tryd.prog) w 23 ⟨g, 0, none⟩ (by kernel_rfl) .i64 .i64 (l : Int) (h : Int) (by omega) (by omega) (by rw [hl]; omega)
  rw [hl, he, size_int] at hr
  rw [hr]
  simp only [Result.andThen_ok, slicedAt, Int.toNat_natCast]
  rw [if_neg (by omega), Nat.mul_one, add_plain, Nat.zero_add]
theorem arm_asl {g : Nat} (l h : Nat) (h1 : l ≤ h) (h2 : h ≤ 64) (h3 : l < 64) (hgd : o.guard = none) (ho : o.op = .slice 23 X (some Y) (some Z) none) (hx : a.eval X = .pointer (some ⟨g, 0, none⟩)) (hy : a.eval Y = .int .i64 (l : Int)) (hz : a.eval Z = .int .i64 (h : Int))
    (k : wpList Tryd.prog ops Q rest (a.put o.dst (.slice (some ⟨g, l, none⟩) (h - l) (64 - l))) w) : wpList Tryd.prog ops Q (o :: rest) a w := by
  refine wpList_plain hgd fun K hK => ?_
  unfold Oper.wp execOp
  simp only [ho, Option.map_some, Option.map_none, hx, hy, hz, Sem.run_bind]
  rw [run_asl w g l h h1 h2 h3]
  exact hK _ _ k
theorem alInt (hgd : o.guard = none) (ho : o.op = .alloc 3) (k : ∀ g w', Blk w' g 3 #[.int .i64 0] → Only [] w w' → w.heap.size ≤ g → wpList Tryd.prog ops Q rest (a.put o.dst (.pointer (some ⟨g, 0, none⟩))) w') : wpList Tryd.prog ops Q (o :: rest) a w :=
  wal _ _ hgd ho zeroInt rfl k
end
set_option maxRecDepth 100000 in
set_option maxHeartbeats 2000000 in
theorem zigzag_of (hS : SortC) (w : World) : Calls Tryd.prog 16 #[] w fun e w' => e = .returned (.agg (arr .i64 64 (scV false))) ∧ Only [] w w' := by
  have hmf : ∀ (fn : Fn) (first cap : Array Value) (w : World), (Instr.makeFunc fn first cap).run Tryd.prog w = .ok (.func fn first cap) w := fun _ _ _ _ => rfl
  go_enter Tryd.func16, Tryd.ntmps16
  have tok : True := trivial
  go_wp2_with (first | (clear tok; refine al64 rfl rfl ?_; rintro g0 w1 b1 o1 l1) | (refine al64 rfl rfl ?_; rintro g1 w2 b2 o2 l2))
  have ho2 := o1.then o2
  have h02 := b1.only o2 (by simp)
  have hlt := b1.lt
  have hz := o1.size
  have hg1 : w.heap.size ≤ g1 := by omega
  have hlt1 := b2.lt
  have HB2 := Lib.hid (show Blk w2 g1 23 (arr .i64 64 (upto (cn (8 * 0)) (scV false))) by rw [show cn (8 * 0) = 0 from rfl, arr_upto_zero]; exact b2)
  clear b1 o1 o2 b2
  go_loopw [2, 6] (fun p s wr => ∃ k : Nat, k ≤ 15 ∧ s = .int .i64 (k : Int) ∧ p = .int .i64 (cn (8 * k) : Int) ∧ Only [] w wr ∧ Only [g1] w2 wr ∧ Hid (Blk wr g1 23 (arr .i64 64 (upto (cn (8 * k)) (scV false))))) (fun _ s _ => 15 - (intOf s).toNat)
  case atStart => exact ⟨0, by omega, rfl, rfl, ho2, Only.refl _ _, HB2⟩
  case round =>
    obtain ⟨k, hk, rfl, rfl, ho, hoo, hb⟩ := hrel
    by_cases hkl : k < 15
    · have hki : (k : Int) < 15 := by omega
      obtain ⟨f1, f2, f3, f4, _⟩ := dg_facts hkl
      obtain ⟨F, hF⟩ : ∃ F, F = cn (8 * k) := ⟨_, rfl⟩
      have HF := Lib.hid hF
      rw [← hF] at f1 ⊢
      obtain ⟨l0, hl0⟩ : ∃ l0, l0 = lo k := ⟨_, rfl⟩
      have HL := Lib.hid hl0
      have hl0' : l0 = k - 7 := hl0
      have hct : ct k = min k 7 + 1 - l0 := by rw [hl0]; rfl
      have HMX := Lib.hid (show (if (k : Int) - 8 + 1 > 0 then (k : Int) - 8 + 1 else 0) = (l0 : Int) by split <;> omega)
      obtain ⟨hi, hhi⟩ : ∃ hi, hi = min k 7 := ⟨_, rfl⟩
      have HMN := Lib.hid (show (if (7 : Int) < (k : Int) then 7 else (k : Int)) = (hi : Int) by split <;> omega)
      have hcl : l0 + ct k = hi + 1 := by omega
      have HB := Lib.hid (show Blk wr g1 23 (arr .i64 64 (mid k 0)) by rw [mid_zero]; exact hb.out)
      have hF64 : F + ct k ≤ 64 := by omega
      have HF1 := Lib.hid f1
      have hk14 : hi ≤ 7 ∧ hi ≤ k ∧ l0 ≤ k := by omega
      clear hF hl0 hl0' hct hhi hb f1 f2
      generalize hC : ct k = C at f3 f4 hcl hF64 HF1
      have HC := Lib.hid hC
      clear hC
      have tok : True := trivial
      have tok2 : True := trivial
      have tok3 : True := trivial
      go_wp2_with (first | (clear tok; refine alInt rfl rfl ?_; rintro gs w3 b3 o3 l3; have c3 := b3.cell 0; have z3 := b3.frozen 0; obtain ⟨s3, p3⟩ := b3.set1 0 (.int .i64 (k : Int)); have C3 := Lib.hid s3; have P3 := Lib.hid p3; have B3 := Lib.hid b3; have d3 := s3.cell 0; clear s3 p3 b3) | (clear tok2; refine arm_max 0 ((k : Int) - 8 + 1) (l0 : Int) HMX.out rfl rfl rfl rfl ?_))
      clear c3 z3 d3
      have hgs : wr.heap.size ≤ gs := l3
      have ng : g1 ≠ gs := by have := hoo.size; omega
      have ho4 := (ho.then o3).own P3.out (by have := ho.size; omega)
      have hoo4 : Only [g1] w2 (w3.setCell ⟨gs, 0, none⟩ (.int .i64 (k : Int))) := (hoo.then o3).trans P3.out (fun x hx => .inr (by simp at hx; have := hoo.size; omega))
      have HB4 := Lib.hid ((HB.out.only o3 (by simp)).only P3.out (by simp; exact ng))
      clear o3 P3 B3 HB l3 ho hoo
      generalize w3.setCell ⟨gs, 0, none⟩ (.int .i64 (k : Int)) = w4 at C3 ho4 hoo4 HB4 ⊢
      go_loopw [2, 5] (fun p r wr => ∃ j rr pp : Nat, j ≤ C ∧ Hid (rr = l0 + j) ∧ Hid (pp = F + j) ∧ r = .int .i64 (rr : Int) ∧ p = .int .i64 (pp : Int) ∧ Only [] w wr ∧ Only [g1] w2 wr ∧ Hid (Blk wr gs 3 #[.int .i64 (k : Int)]) ∧ Hid (Blk wr g1 23 (arr .i64 64 (mid k j)))) (fun p _ _ => F + C - (intOf p).toNat)
      case atStart => exact ⟨0, l0, F, by omega, Lib.hid rfl, Lib.hid rfl, rfl, rfl, ho4, hoo4, C3, HB4⟩
      case round =>
        obtain ⟨j, rr, pp, hj, hrr, hpp, rfl, rfl, ho, hoo, hcs, hb⟩ := hrel
        have hr1 := hrr.out
        have hp1 := hpp.out
        have d3 := hcs.out.cell 0
        by_cases hjl : j < C
        · have hd : (rr : Int) ≤ (hi : Int) := by omega
          have hdn : rr ≤ hi := by omega
          have hp64 : pp < 64 := by omega
          have hpi : (pp : Int) < 64 := by omega
          have hcg := hb.out.cell pp
          rw [arr_get hp64] at hcg
          have hfz := hb.out.frozen pp
          obtain ⟨s1, s2⟩ := hb.out.set1 pp (.int .i64 (8 * (rr : Int) + (k : Int) - (rr : Int)))
          rw [mid_step (j := j) (by rw [hp1, HF.out]) hp64 (by rw [hr1, HL.out]; omega)] at s1
          have On := Lib.hid (ho.own s2 hg1)
          have Onn := Lib.hid (hoo.same s2)
          have Hb := Lib.hid s1
          have Hcs := Lib.hid (hcs.out.only s2 (by simp; exact Ne.symm ng))
          have HR1 := Lib.hid (show rr + 1 = l0 + (j + 1) by omega)
          have HP1 := Lib.hid (show pp + 1 = F + (j + 1) by omega)
          have hr16 : rr ≤ 7 := by omega
          have hpm : pp < F + C := by omega
          clear s1 s2 ho hoo hb hcs hr1 hp1 hrr hpp
          go_wp2_with (refine arm_min (k : Int) 7 (hi : Int) HMN.out rfl rfl rfl rfl ?_)
          go_roundw
          case rel => exact ⟨j + 1, rr + 1, pp + 1, by omega, HR1, HP1, by go_num, by go_num, On.out, Onn.out, Hcs, Hb⟩
          case measure => simp [intOf]; omega
        · obtain rfl : j = C := by omega
          have hd : decide ((rr : Int) ≤ (hi : Int)) = false := decide_eq_false (by omega)
          have hdn : decide (rr ≤ hi) = false := decide_eq_false (by omega)
          have hrh : hi < rr := by omega
          have hFp : F ≤ pp := by omega
          have hF64' : F < 64 := by omega
          have hp64 : pp ≤ 64 := by omega
          have HSC := Lib.hid (show Calls Tryd.prog 19 #[.slice (some ⟨g1, F, none⟩) (pp - F) (64 - F), .func (.func 20) #[] #[.pointer (some ⟨gs, 0, none⟩)]] wr fun e w' => e = .returned (.tuple #[]) ∧ Only [g1] wr w' ∧ Blk w' g1 23 (arr .i64 64 (upto (cn (8 * (k + 1))) (scV false))) from by
            have h1 := hS wr g1 gs k hkl (by rw [HC.out]; exact hb.out) hcs.out
            rw [HC.out, ← HF.out] at h1
            rw [show pp - F = j by omega]
            exact h1)
          have HPN := Lib.hid (show pp = cn (8 * (k + 1)) by rw [hp1, HF1.out])
          clear hr1 hp1 hrr hpp hjl hb hcs
          have tok : True := trivial
          have tok2 : True := trivial
          go_wp2_with (first | (clear tok; refine arm_min (k : Int) 7 (hi : Int) HMN.out rfl rfl rfl rfl ?_) | (clear tok2; refine arm_asl F pp hFp hp64 hF64' rfl rfl rfl rfl rfl ?_))
          refine HSC.out.mono ?_
          rintro e w5 ⟨rfl, o5, b5⟩
          have On := Lib.hid (ho.own o5 hg1)
          have Onn := Lib.hid (hoo.same o5)
          have Hb := Lib.hid b5
          clear o5 b5 ho hoo HSC
          go_wp2_with fail
          go_roundw
          case rel => exact ⟨k + 1, by omega, by go_num, by rw [HPN.out], On.out, Onn.out, Hb⟩
          case measure => simp [intOf]; omega
    · obtain rfl : k = 15 := by omega
      have hb' := hb.out
      rw [show cn (8 * 15) = 64 from cn_end, arr_upto_all (by omega)] at hb'
      have h0 := h02.only hoo (by simp; omega)
      clear hb
      go_wp2_with (first | refine ld64 hb' rfl rfl rfl ?_ | (refine sr64 h0 rfl rfl rfl rfl ?_; rintro w6 b6 o6 e6))
      exact bodyPost_ret (res64 rfl b6 rfl) rfl ⟨rfl, ho.own o6 (by omega)⟩
end Go.Proofs.YtmjjdehicngffaaDoor
