/- ToScan and FromScan of both. -/
import Derived.Test.YtmjjdehicngffaaDoorD1
namespace Go.Proofs.YtmjjdehicngffaaDoor
open Go.RowKit

/-- What is asked of the program's Scan. -/
def ScanC (w : World) (al : Bool) : Prop := ∀ w', Only [] w w' → Calls Tryd.prog 6 #[.bool al] w' fun e w'' => e = .returned (.agg (arr .i64 64 (scV al))) ∧ Only [] w' w''
set_option maxHeartbeats 1000000 in
theorem toScan_of (w : World) (x : Nat → Int) (al : Bool) (hS : ScanC w al) : Calls Tryd.prog 5 #[.agg (arr .i64 64 x), .bool al] w fun e w' => e = .returned (.agg (arr .i64 64 (toS x al))) ∧ Only [] w w' := by
  go_enter Tryd.func5, Tryd.ntmps5
  have tok : True := trivial
  have tok2 : True := trivial
  go_wp2_with (first | (clear tok; refine bx64 rfl rfl rfl ?_; rintro g2 w1 b1 o1 l1) | (clear tok2; refine al64 rfl rfl ?_; rintro g4 w2 b2 o2 l2) | (refine al64 rfl rfl ?_; rintro g5 w3 b3 o3 l3))
  refine (hS _ ((o1.then o2).then o3)).mono ?_
  rintro e w4 ⟨rfl, o4⟩
  have H1 := Lib.hid (((b1.only o2 (by simp)).only o3 (by simp)).only o4 (by simp))
  have H2 := Lib.hid ((b2.only o3 (by simp)).only o4 (by simp))
  have h3 := b3.only o4 (by simp)
  have ho4 := ((o1.then o2).then o3).then o4
  have n25 : g2 ≠ g5 := by have := b1.lt; have := o2.size; omega
  have n45 : g4 ≠ g5 := by have := b2.lt; omega
  have hz := o1.size
  have hz2 := o2.size
  have hg5 : w.heap.size ≤ g5 := by omega
  have hg4 : w.heap.size ≤ g4 := by omega
  have HB := Lib.hid (show Blk w4 g5 23 (arr .i64 64 (upto 0 (toS x al))) by rw [arr_upto_zero]; exact h3)
  have HS := Lib.hid hS
  clear b1 b2 b3 o1 o2 o3 o4 h3 hS
  go_wp2_with fail
  go_loopw [10] (fun p wr => ∃ k : Nat, k ≤ 64 ∧ p = .int .i64 (k : Int) ∧ Only [] w wr ∧ Only [g5] w4 wr ∧ Hid (Blk wr g5 23 (arr .i64 64 (upto k (toS x al))))) (fun p _ => 64 - (intOf p).toNat)
  case atStart => exact ⟨0, by omega, rfl, ho4, Only.refl _ _, HB⟩
  case round =>
    obtain ⟨k, hk, rfl, ho, hoo, hb⟩ := hrel
    by_cases hkl : k < 64
    · have hki : (k : Int) < 64 := by omega
      have hat := idx64 (scV al) k hkl
      obtain ⟨hs1, _, _, _⟩ := sc_facts al hkl
      have hsv : scV al k = (sc al k : Int) := rfl
      rw [hsv] at hat
      have hxc : wr.cell? ⟨g2, sc al k, none⟩ = some (.int .i64 (toS x al k)) := by
        have := (H1.out.only hoo (by simp; exact n25)).cell (sc al k)
        rw [arr_get hs1] at this
        exact this
      have hcg := hb.out.cell (k)
      rw [arr_get hkl] at hcg
      have hfz := hb.out.frozen (k)
      obtain ⟨s1, s2⟩ := hb.out.set1 (k) (.int .i64 (toS x al k))
      rw [arr_set_upto (x := toS x al) hkl rfl] at s1
      have On := Lib.hid (ho.own s2 hg5)
      have Onn := Lib.hid (hoo.same s2)
      have Hb := Lib.hid s1
      have hsi : (sc al k : Int) < 64 := by omega
      clear s1 s2 hsv ho hoo hb
      generalize sc al k = q at hat hs1 hxc hcg hfz hsi On Onn Hb
      go_wp2_with fail
      go_roundw
      case rel => exact ⟨k + 1, by omega, by go_num, On.out, Onn.out, Hb⟩
      case measure => simp [intOf]; omega
    · obtain rfl : k = 64 := by omega
      have hb' := hb.out
      rw [arr_upto_all (by omega)] at hb'
      have h0 := H2.out.only hoo (by simp; exact n45)
      clear hb
      go_wp2_with (first | refine ld64 hb' rfl rfl rfl ?_ | (refine sr64 h0 rfl rfl rfl rfl ?_; rintro w6 b6 o6 e6))
      exact bodyPost_ret (res64 rfl b6 rfl) rfl ⟨rfl, ho.own o6 hg4⟩
set_option maxHeartbeats 1000000 in
theorem fromScan_of (w : World) (x : Nat → Int) (al : Bool) (hS : ScanC w al) : Calls Tryd.prog 9 #[.agg (arr .i64 64 x), .bool al] w fun e w' => e = .returned (.agg (arr .i64 64 (frS x al))) ∧ Only [] w w' := by
  go_enter Tryd.func9, Tryd.ntmps9
  have tok : True := trivial
  have tok2 : True := trivial
  go_wp2_with (first | (clear tok; refine bx64 rfl rfl rfl ?_; rintro g2 w1 b1 o1 l1) | (clear tok2; refine al64 rfl rfl ?_; rintro g4 w2 b2 o2 l2) | (refine al64 rfl rfl ?_; rintro g5 w3 b3 o3 l3))
  refine (hS _ ((o1.then o2).then o3)).mono ?_
  rintro e w4 ⟨rfl, o4⟩
  have H1 := Lib.hid (((b1.only o2 (by simp)).only o3 (by simp)).only o4 (by simp))
  have H2 := Lib.hid ((b2.only o3 (by simp)).only o4 (by simp))
  have h3 := b3.only o4 (by simp)
  have ho4 := ((o1.then o2).then o3).then o4
  have n25 : g2 ≠ g5 := by have := b1.lt; have := o2.size; omega
  have n45 : g4 ≠ g5 := by have := b2.lt; omega
  have hz := o1.size
  have hz2 := o2.size
  have hg5 : w.heap.size ≤ g5 := by omega
  have hg4 : w.heap.size ≤ g4 := by omega
  have HB := Lib.hid (show Blk w4 g5 23 (arr .i64 64 (frK x al 0)) by rw [frK_zero]; exact h3)
  have HS := Lib.hid hS
  clear b1 b2 b3 o1 o2 o3 o4 h3 hS
  go_wp2_with fail
  go_loopw [10] (fun p wr => ∃ k : Nat, k ≤ 64 ∧ p = .int .i64 (k : Int) ∧ Only [] w wr ∧ Only [g5] w4 wr ∧ Hid (Blk wr g5 23 (arr .i64 64 (frK x al k)))) (fun p _ => 64 - (intOf p).toNat)
  case atStart => exact ⟨0, by omega, rfl, ho4, Only.refl _ _, HB⟩
  case round =>
    obtain ⟨k, hk, rfl, ho, hoo, hb⟩ := hrel
    by_cases hkl : k < 64
    · have hki : (k : Int) < 64 := by omega
      have hat := idx64 (scV al) k hkl
      obtain ⟨hs1, _, _, _⟩ := sc_facts al hkl
      have hsv : scV al k = (sc al k : Int) := rfl
      rw [hsv] at hat
      have hxc : wr.cell? ⟨g2, k, none⟩ = some (.int .i64 (x k)) := by
        have := (H1.out.only hoo (by simp; exact n25)).cell (k)
        rw [arr_get hkl] at this
        exact this
      have hcg := hb.out.cell (sc al k)
      rw [arr_get hs1] at hcg
      have hfz := hb.out.frozen (sc al k)
      obtain ⟨s1, s2⟩ := hb.out.set1 (sc al k) (.int .i64 (x k))
      rw [frK_step x al hkl] at s1
      have On := Lib.hid (ho.own s2 hg5)
      have Onn := Lib.hid (hoo.same s2)
      have Hb := Lib.hid s1
      have hsi : (sc al k : Int) < 64 := by omega
      clear s1 s2 hsv ho hoo hb
      generalize sc al k = q at hat hs1 hxc hcg hfz hsi On Onn Hb
      go_wp2_with fail
      go_roundw
      case rel => exact ⟨k + 1, by omega, by go_num, On.out, Onn.out, Hb⟩
      case measure => simp [intOf]; omega
    · obtain rfl : k = 64 := by omega
      have hb' := hb.out
      rw [frK_end] at hb'
      have h0 := H2.out.only hoo (by simp; exact n45)
      clear hb
      go_wp2_with (first | refine ld64 hb' rfl rfl rfl ?_ | (refine sr64 h0 rfl rfl rfl rfl ?_; rintro w6 b6 o6 e6))
      exact bodyPost_ret (res64 rfl b6 rfl) rfl ⟨rfl, ho.own o6 hg4⟩
set_option maxHeartbeats 1000000 in
theorem refToScan_any (w : World) (x : Nat → Int) (al : Bool) : Calls Tryd.prog 8 #[.agg (arr .i64 64 x), .bool al] w fun e w' => e = .returned (.agg (arr .i64 64 (toS x al))) ∧ Only [] w w' := by
  go_enter Tryd.func8, Tryd.ntmps8
  have tok : True := trivial
  have tok2 : True := trivial
  go_wp2_with (first | (clear tok; refine bx64 rfl rfl rfl ?_; rintro g2 w1 b1 o1 l1) | (clear tok2; refine al64 rfl rfl ?_; rintro g4 w2 b2 o2 l2))
  refine (refScan_any _ al).mono ?_
  rintro e w3 ⟨rfl, o3⟩
  have tok3 : True := trivial
  have tok4 : True := trivial
  go_wp2_with (first | (clear tok3; refine al64 rfl rfl ?_; rintro g5 w4 b4 o4 l4) | (clear tok4; refine sr64 b4 rfl rfl rfl rfl ?_; rintro w5 b5 o5 e5) | (refine al64 rfl rfl ?_; rintro g6 w6 b6 o6 l6))
  have hz := o1.size
  have hz2 := o2.size
  have hz3 := o3.size
  have hz4 := o4.size
  have q1 := b1.lt
  have q2 := b2.lt
  have q4 := b4.lt
  have hg5 : w.heap.size ≤ g5 := by omega
  have hg4 : w.heap.size ≤ g4 := by omega
  have hg6 : w.heap.size ≤ g6 := by omega
  have n26 : g2 ≠ g6 := by omega
  have n46 : g4 ≠ g6 := by omega
  have n56 : g5 ≠ g6 := by omega
  have H1 := Lib.hid (((((b1.only o2 (by simp)).only o3 (by simp)).only o4 (by simp)).only o5 (by simp; omega)).only o6 (by simp))
  have H2 := Lib.hid ((((b2.only o3 (by simp)).only o4 (by simp)).only o5 (by simp; omega)).only o6 (by simp))
  have H5 := Lib.hid (b5.only o6 (by simp))
  have ho6 := (((((o1.then o2).then o3).then o4).own o5 hg5).then o6)
  have HB := Lib.hid (show Blk w6 g6 23 (arr .i64 64 (upto 0 (toS x al))) by rw [arr_upto_zero]; exact b6)
  clear b1 b2 b4 b5 b6 o1 o2 o3 o4 o5 o6 e5
  go_loopw [7] (fun p wr => ∃ k : Nat, k ≤ 64 ∧ p = .int .i64 (k : Int) ∧ Only [] w wr ∧ Only [g6] w6 wr ∧ Hid (Blk wr g6 23 (arr .i64 64 (upto k (toS x al))))) (fun p _ => 64 - (intOf p).toNat)
  case atStart => exact ⟨0, by omega, rfl, ho6, Only.refl _ _, HB⟩
  case round =>
    obtain ⟨k, hk, rfl, ho, hoo, hb⟩ := hrel
    by_cases hkl : k < 64
    · have hki : (k : Int) < 64 := by omega
      obtain ⟨hs1, _, _, _⟩ := sc_facts al hkl
      have hsc : wr.cell? ⟨g5, k, none⟩ = some (.int .i64 (sc al k : Int)) := by
        have := (H5.out.only hoo (by simp; exact n56)).cell k
        rw [arr_get hkl] at this
        exact this
      have hxc : wr.cell? ⟨g2, sc al k, none⟩ = some (.int .i64 (toS x al k)) := by
        have := (H1.out.only hoo (by simp; exact n26)).cell (sc al k)
        rw [arr_get hs1] at this
        exact this
      have hcg := hb.out.cell (k)
      rw [arr_get hkl] at hcg
      have hfz := hb.out.frozen (k)
      obtain ⟨s1, s2⟩ := hb.out.set1 (k) (.int .i64 (toS x al k))
      rw [arr_set_upto (x := toS x al) hkl rfl] at s1
      have On := Lib.hid (ho.own s2 hg6)
      have Onn := Lib.hid (hoo.same s2)
      have Hb := Lib.hid s1
      have hsi : (sc al k : Int) < 64 := by omega
      clear s1 s2 ho hoo hb
      generalize sc al k = q at hsc hs1 hxc hcg hfz hsi On Onn Hb
      go_wp2_with fail
      go_roundw
      case rel => exact ⟨k + 1, by omega, by go_num, On.out, Onn.out, Hb⟩
      case measure => simp [intOf]; omega
    · obtain rfl : k = 64 := by omega
      have hb' := hb.out
      rw [arr_upto_all (by omega)] at hb'
      have h0 := H2.out.only hoo (by simp; exact n46)
      clear hb
      go_wp2_with (first | refine ld64 hb' rfl rfl rfl ?_ | (refine sr64 h0 rfl rfl rfl rfl ?_; rintro w7 b7 o7 e7))
      exact bodyPost_ret (res64 rfl b7 rfl) rfl ⟨rfl, ho.own o7 hg4⟩
set_option maxHeartbeats 1000000 in
theorem refFromScan_any (w : World) (x : Nat → Int) (al : Bool) : Calls Tryd.prog 10 #[.agg (arr .i64 64 x), .bool al] w fun e w' => e = .returned (.agg (arr .i64 64 (frS x al))) ∧ Only [] w w' := by
  go_enter Tryd.func10, Tryd.ntmps10
  have tok : True := trivial
  have tok2 : True := trivial
  go_wp2_with (first | (clear tok; refine bx64 rfl rfl rfl ?_; rintro g2 w1 b1 o1 l1) | (clear tok2; refine al64 rfl rfl ?_; rintro g4 w2 b2 o2 l2))
  refine (refScan_any _ al).mono ?_
  rintro e w3 ⟨rfl, o3⟩
  have tok3 : True := trivial
  have tok4 : True := trivial
  go_wp2_with (first | (clear tok3; refine al64 rfl rfl ?_; rintro g5 w4 b4 o4 l4) | (clear tok4; refine sr64 b4 rfl rfl rfl rfl ?_; rintro w5 b5 o5 e5) | (refine al64 rfl rfl ?_; rintro g6 w6 b6 o6 l6))
  have hz := o1.size
  have hz2 := o2.size
  have hz3 := o3.size
  have hz4 := o4.size
  have q1 := b1.lt
  have q2 := b2.lt
  have q4 := b4.lt
  have hg5 : w.heap.size ≤ g5 := by omega
  have hg4 : w.heap.size ≤ g4 := by omega
  have hg6 : w.heap.size ≤ g6 := by omega
  have n26 : g2 ≠ g6 := by omega
  have n46 : g4 ≠ g6 := by omega
  have n56 : g5 ≠ g6 := by omega
  have H1 := Lib.hid (((((b1.only o2 (by simp)).only o3 (by simp)).only o4 (by simp)).only o5 (by simp; omega)).only o6 (by simp))
  have H2 := Lib.hid ((((b2.only o3 (by simp)).only o4 (by simp)).only o5 (by simp; omega)).only o6 (by simp))
  have H5 := Lib.hid (b5.only o6 (by simp))
  have ho6 := (((((o1.then o2).then o3).then o4).own o5 hg5).then o6)
  have HB := Lib.hid (show Blk w6 g6 23 (arr .i64 64 (frK x al 0)) by rw [frK_zero]; exact b6)
  clear b1 b2 b4 b5 b6 o1 o2 o3 o4 o5 o6 e5
  go_loopw [7] (fun p wr => ∃ k : Nat, k ≤ 64 ∧ p = .int .i64 (k : Int) ∧ Only [] w wr ∧ Only [g6] w6 wr ∧ Hid (Blk wr g6 23 (arr .i64 64 (frK x al k)))) (fun p _ => 64 - (intOf p).toNat)
  case atStart => exact ⟨0, by omega, rfl, ho6, Only.refl _ _, HB⟩
  case round =>
    obtain ⟨k, hk, rfl, ho, hoo, hb⟩ := hrel
    by_cases hkl : k < 64
    · have hki : (k : Int) < 64 := by omega
      obtain ⟨hs1, _, _, _⟩ := sc_facts al hkl
      have hsc : wr.cell? ⟨g5, k, none⟩ = some (.int .i64 (sc al k : Int)) := by
        have := (H5.out.only hoo (by simp; exact n56)).cell k
        rw [arr_get hkl] at this
        exact this
      have hxc : wr.cell? ⟨g2, k, none⟩ = some (.int .i64 (x k)) := by
        have := (H1.out.only hoo (by simp; exact n26)).cell (k)
        rw [arr_get hkl] at this
        exact this
      have hcg := hb.out.cell (sc al k)
      rw [arr_get hs1] at hcg
      have hfz := hb.out.frozen (sc al k)
      obtain ⟨s1, s2⟩ := hb.out.set1 (sc al k) (.int .i64 (x k))
      rw [frK_step x al hkl] at s1
      have On := Lib.hid (ho.own s2 hg6)
      have Onn := Lib.hid (hoo.same s2)
      have Hb := Lib.hid s1
      have hsi : (sc al k : Int) < 64 := by omega
      clear s1 s2 ho hoo hb
      generalize sc al k = q at hsc hs1 hxc hcg hfz hsi On Onn Hb
      go_wp2_with fail
      go_region
      all_goals go_wp2_with fail
      go_roundw
      case rel => exact ⟨k + 1, by omega, by go_num, On.out.drew, Onn.out.drew, Lib.hid Hb.out.drew⟩
      case measure => simp [intOf]; omega
    · obtain rfl : k = 64 := by omega
      have hb' := hb.out
      rw [frK_end] at hb'
      have h0 := H2.out.only hoo (by simp; exact n46)
      clear hb
      go_wp2_with (first | refine ld64 hb' rfl rfl rfl ?_ | (refine sr64 h0 rfl rfl rfl rfl ?_; rintro w7 b7 o7 e7))
      exact bodyPost_ret (res64 rfl b7 rfl) rfl ⟨rfl, ho.own o7 hg4⟩
end Go.Proofs.YtmjjdehicngffaaDoor
