/- Both scans as plain functions; the reference's Scan, ToScan, FromScan, DefaultIntra. -/
import Derived.Test.YtmjjdehicngffaaDoorQ5
namespace Go.Proofs.YtmjjdehicngffaaDoor
open Go.RowKit

def zzL : List Nat := [0, 1, 8, 16, 9, 2, 3, 10, 17, 24, 32, 25, 18, 11, 4, 5, 12, 19, 26, 33, 40, 48, 41, 34, 27, 20, 13, 6, 7, 14, 21, 28, 35, 42, 49, 56, 57, 50, 43, 36, 29, 22, 15, 23, 30, 37, 44, 51, 58, 59, 52, 45, 38, 31, 39, 46, 53, 60, 61, 54, 47, 55, 62, 63]
def altL : List Nat := [0, 8, 16, 24, 1, 9, 2, 10, 17, 25, 32, 40, 48, 56, 57, 49, 41, 33, 26, 18, 3, 11, 4, 12, 19, 27, 34, 42, 50, 58, 35, 43, 51, 59, 20, 28, 5, 13, 6, 14, 21, 29, 36, 44, 52, 60, 37, 45, 53, 61, 22, 30, 7, 15, 23, 31, 38, 46, 54, 62, 39, 47, 55, 63]
def zzI : List Nat := [0, 1, 5, 6, 14, 15, 27, 28, 2, 4, 7, 13, 16, 26, 29, 42, 3, 8, 12, 17, 25, 30, 41, 43, 9, 11, 18, 24, 31, 40, 44, 53, 10, 19, 23, 32, 39, 45, 52, 54, 20, 22, 33, 38, 46, 51, 55, 60, 21, 34, 37, 47, 50, 56, 59, 61, 35, 36, 48, 49, 57, 58, 62, 63]
def altI : List Nat := [0, 4, 6, 20, 22, 36, 38, 52, 1, 5, 7, 21, 23, 37, 39, 53, 2, 8, 19, 24, 34, 40, 50, 54, 3, 9, 18, 25, 35, 41, 51, 55, 10, 17, 26, 30, 42, 46, 56, 60, 11, 16, 27, 31, 43, 47, 57, 61, 12, 15, 28, 32, 44, 48, 58, 62, 13, 14, 29, 33, 45, 49, 59, 63]
def intraL : List Nat := [8, 16, 19, 22, 26, 27, 29, 34, 16, 16, 22, 24, 27, 29, 34, 37, 19, 22, 26, 27, 29, 34, 34, 38, 22, 22, 26, 27, 29, 34, 37, 40, 22, 26, 27, 29, 32, 35, 40, 48, 26, 27, 29, 32, 35, 40, 48, 58, 26, 27, 29, 34, 38, 46, 56, 69, 27, 29, 35, 38, 46, 56, 69, 83]
/-- The scan. -/
def sc (a : Bool) (i : Nat) : Nat := (if a = true then altL else zzL).getD i 0
/-- The place of an element in the scan. -/
def sI (a : Bool) (i : Nat) : Nat := (if a = true then altI else zzI).getD i 0
def scV (a : Bool) : Nat → Int := fun i => (sc a i : Int)
def intraV : Nat → Int := fun i => (intraL.getD i 0 : Int)
theorem sc_facts (a : Bool) {i : Nat} (h : i < 64) : sc a i < 64 ∧ sI a i < 64 ∧ sI a (sc a i) = i ∧ sc a (sI a i) = i := by
  have h1 : ∀ i : Fin 64, sc true i.val < 64 ∧ sI true i.val < 64 ∧ sI true (sc true i.val) = i.val ∧ sc true (sI true i.val) = i.val := by decide +kernel
  have h2 : ∀ i : Fin 64, sc false i.val < 64 ∧ sI false i.val < 64 ∧ sI false (sc false i.val) = i.val ∧ sc false (sI false i.val) = i.val := by decide +kernel
  cases a
  · exact h2 ⟨i, h⟩
  · exact h1 ⟨i, h⟩
/-- A block in scan order, and back. -/
def toS (x : Nat → Int) (a : Bool) : Nat → Int := fun i => x (sc a i)
def frS (x : Nat → Int) (a : Bool) : Nat → Int := fun j => x (sI a j)
theorem fr_to (x : Nat → Int) (a : Bool) {j : Nat} (h : j < 64) : frS (toS x a) a j = x j := by unfold frS toS; rw [(sc_facts a h).2.2.2]
/-- The first p elements laid back. -/
def frK (x : Nat → Int) (a : Bool) (p : Nat) : Nat → Int := fun j => if sI a j < p then x (sI a j) else 0
theorem frK_zero {k : IntKind} (x : Nat → Int) (a : Bool) : arr k 64 (frK x a 0) = arr k 64 (fun _ => 0) := arr_congr (fun j _ => by simp [frK])
theorem frK_end {k : IntKind} (x : Nat → Int) (a : Bool) : arr k 64 (frK x a 64) = arr k 64 (frS x a) := arr_congr (fun j hj => by unfold frK frS; rw [if_pos (sc_facts a hj).2.1])
theorem frK_step {k : IntKind} (x : Nat → Int) (a : Bool) {p : Nat} (h : p < 64) : (arr k 64 (frK x a p)).setIfInBounds (sc a p) (.int k (x p)) = arr k 64 (frK x a (p + 1)) := by
  have hp := sc_facts a h
  rw [arr_set _ hp.1]
  apply arr_congr
  intro j hj
  unfold upd frK
  by_cases hjp : j = sc a p
  · subst hjp
    rw [if_pos rfl, hp.2.2.1, if_pos (by omega)]
  · rw [if_neg hjp]
    have hne : sI a j ≠ p := fun e => hjp (by rw [← e, (sc_facts a hj).2.2.2])
    by_cases h2 : sI a j < p
    · rw [if_pos h2, if_pos (by omega)]
    · rw [if_neg h2, if_neg (by omega)]
section
variable {ops : Array Oper} {rest : List Oper} {o : Oper} {a : Act} {w : World} {Q : Exit → Act → World → Prop}
theorem bldA {parts : Array (Nat × Operand)} (hgd : o.guard = none) (ho : o.op = .build 23 parts) (hb : Tryd.prog.built 23 (parts.map fun (i, x) => (i, a.eval x)).toList = some (arr .i64 64 (scV true)))
    (k : wpList Tryd.prog ops Q rest (a.put o.dst (.agg (arr .i64 64 (scV true)))) w) : wpList Tryd.prog ops Q (o :: rest) a w :=
  wpList_build hgd _ parts ho (by rw [hb]; rfl) (by rw [hb]; exact k)
theorem bldI {parts : Array (Nat × Operand)} (hgd : o.guard = none) (ho : o.op = .build 28 parts) (hb : Tryd.prog.built 28 (parts.map fun (i, x) => (i, a.eval x)).toList = some (arr .u8 64 intraV))
    (k : wpList Tryd.prog ops Q rest (a.put o.dst (.agg (arr .u8 64 intraV))) w) : wpList Tryd.prog ops Q (o :: rest) a w :=
  wpList_build hgd _ parts ho (by rw [hb]; rfl) (by rw [hb]; exact k)
end
set_option maxRecDepth 100000 in
theorem refIntra_any (w : World) : Calls Tryd.prog 13 #[] w fun e w' => e = .returned (.agg (arr .u8 64 intraV)) ∧ Only [] w w' := by
  go_enter Tryd.func13, Tryd.ntmps13
  go_wp2_with (first | (refine al8 rfl rfl ?_; rintro g0 w1 b1 o1 l1) | (refine bldI rfl rfl (by kernel_rfl) ?_) | (refine sr8 b1 rfl rfl rfl rfl ?_; rintro w2 b2 o2 e2))
  exact bodyPost_ret (res8 rfl b2 rfl) rfl ⟨rfl, o1.own o2 l1⟩
theorem intra_any (w : World) (h : ∃ t, Blk w 1 t (arr .u8 64 intraV)) : Calls Tryd.prog 12 #[] w fun e w' => e = .returned (.agg (arr .u8 64 intraV)) ∧ Only [] w w' := by
  obtain ⟨t, hb⟩ := h
  go_enter Tryd.func12, Tryd.ntmps12
  go_wp2_with (first | (refine al8 rfl rfl ?_; rintro g0 w1 b1 o1 l1) | (refine wpList_load_row rfl 28 _ rfl 1 rfl t _ (0, 0) _ (hb.only o1 (by simp)) Tryd.underlying28 rfl (info_of_arr8 _) ?_) | (refine sr8 b1 rfl rfl rfl rfl ?_; rintro w2 b2 o2 e2))
  exact bodyPost_ret (res8 rfl b2 rfl) rfl ⟨rfl, o1.own o2 l1⟩
/-- How many of the first m places (diagonal m / 8, number m % 8) lie in the block. -/
def rw6 (s n : Nat) : Nat := if s % 2 = 0 then 7 - n else n
def inB (s n : Nat) : Bool := decide (rw6 s n ≤ s) && decide (s - rw6 s n < 8)
def cn (m : Nat) : Nat := ((List.range m).filter fun i => inB (i / 8) (i % 8)).length
theorem cn_succ (m : Nat) : cn (m + 1) = cn m + (if inB (m / 8) (m % 8) = true then 1 else 0) := by
  unfold cn
  rw [List.range_succ, List.filter_append]
  simp only [List.filter_cons, List.filter_nil, List.length_append]
  split <;> simp
theorem cn_facts {m : Nat} (h : m < 120) : (inB (m / 8) (m % 8) = true → cn m < 64 ∧ sc false (cn m) = 7 * rw6 (m / 8) (m % 8) + m / 8) ∧ cn m ≤ 64 := by
  have : ∀ i : Fin 120, (inB (i.val / 8) (i.val % 8) = true → cn i.val < 64 ∧ sc false (cn i.val) = 7 * rw6 (i.val / 8) (i.val % 8) + i.val / 8) ∧ cn i.val ≤ 64 := by decide +kernel
  exact this ⟨m, h⟩
theorem cn_end : cn 120 = 64 := by decide +kernel
set_option maxRecDepth 100000 in
set_option maxHeartbeats 2000000 in
theorem refScan_any (w : World) (al : Bool) : Calls Tryd.prog 7 #[.bool al] w fun e w' => e = .returned (.agg (arr .i64 64 (scV al))) ∧ Only [] w w' := by
  cases al with
  | true =>
    go_enter Tryd.func7, Tryd.ntmps7
    have tok : True := trivial
    go_wp2_with (first | (clear tok; refine al64 rfl rfl ?_; rintro g0 w1 b1 o1 l1) | (refine bldA rfl rfl (by kernel_rfl) ?_) | (refine sr64 b1 rfl rfl rfl rfl ?_; rintro w2 b2 o2 e2))
    exact bodyPost_ret (res64 rfl b2 rfl) rfl ⟨rfl, o1.own o2 l1⟩
  | false =>
    go_enter Tryd.func7, Tryd.ntmps7
    have tok : True := trivial
    go_wp2_with (first | (clear tok; refine al64 rfl rfl ?_; rintro g0 w1 b1 o1 l1) | (refine al64 rfl rfl ?_; rintro g1 w2 b2 o2 l2))
    have ho2 := o1.then o2
    have h02 := b1.only o2 (by simp)
    have hlt := b1.lt
    have hz := o1.size
    have HB2 := Lib.hid (show Blk w2 g1 23 (arr .i64 64 (upto (cn (8 * 0)) (scV false))) by rw [show cn (8 * 0) = 0 from rfl, arr_upto_zero]; exact b2)
    clear b1 o1 o2 b2
    go_loopw [4, 5] (fun p s wr => ∃ k : Nat, k ≤ 15 ∧ s = .int .i64 (k : Int) ∧ p = .int .i64 (cn (8 * k) : Int) ∧ Only [] w wr ∧ Only [g1] w2 wr ∧ Hid (Blk wr g1 23 (arr .i64 64 (upto (cn (8 * k)) (scV false))))) (fun _ s _ => 15 - (intOf s).toNat)
    case atStart => exact ⟨0, by omega, rfl, rfl, ho2, Only.refl _ _, HB2⟩
    case round =>
      obtain ⟨k, hk, rfl, rfl, ho, hoo, hb⟩ := hrel
      by_cases hkl : k < 15
      · have hki : (k : Int) < 15 := by omega
        go_wp2_with fail
        go_loopw [4, 6] (fun p n wr => ∃ j : Nat, j ≤ 8 ∧ n = .int .i64 (j : Int) ∧ p = .int .i64 (cn (8 * k + j) : Int) ∧ Only [] w wr ∧ Only [g1] w2 wr ∧ Hid (Blk wr g1 23 (arr .i64 64 (upto (cn (8 * k + j)) (scV false))))) (fun _ n _ => 8 - (intOf n).toNat)
        case atStart => exact ⟨0, by omega, rfl, rfl, ho, hoo, hb⟩
        case round =>
          obtain ⟨j, hj, rfl, rfl, ho, hoo, hb⟩ := hrel
          by_cases hjl : j < 8
          · have hji : (j : Int) < 8 := by omega
            have hc := cn_facts (m := 8 * k + j) (by omega)
            have hs := cn_succ (8 * k + j)
            rw [show (8 * k + j) / 8 = k by omega, show (8 * k + j) % 8 = j by omega] at hc hs
            obtain ⟨hc1, hc2⟩ := hc
            obtain ⟨r, hr⟩ : ∃ r, r = rw6 k j := ⟨_, rfl⟩
            have hr8 : r ≤ 7 := by rw [hr]; unfold rw6; split <;> omega
            have hin : inB k j = (decide (r ≤ k) && decide (k - r < 8)) := by unfold inB; rw [← hr]
            rw [← hr] at hc1
            obtain ⟨c, hcc⟩ : ∃ c, c = cn (8 * k + j) := ⟨_, rfl⟩
            have hnx : cn (8 * k + (j + 1)) = cn (8 * k + j + 1) := rfl
            rw [← hcc] at hc1 hc2 hs hb ⊢
            have HNX := Lib.hid (hnx.trans hs)
            have HIN := Lib.hid hin
            have HC1 := Lib.hid hc1
            have HR := Lib.hid hr
            clear hnx hs hin hc1 hr hcc
            have key : ∀ (v : Bool), inB k j = v → (v = true → (r ≤ k ∧ k - r < 8)) ∧ (v = false → ¬ (r ≤ k ∧ k - r < 8)) := fun v hv => by
              rw [HIN.out] at hv
              constructor
              · rintro rfl; simpa using hv
              · rintro rfl; simpa using hv
            by_cases hpar : k % 2 = 0
            · have hre : (7 : Int) - (j : Int) = (r : Int) := by have := HR.out; unfold rw6 at this; rw [if_pos hpar] at this; omega
              have hp2 : ((k : Int) % 2 == 0) = true := by rw [beq_iff_eq]; omega
              clear hpar
              cases hv : inB k j with
              | true =>
                obtain ⟨hv1, hv2⟩ := (key true hv).1 rfl
                obtain ⟨hc64, hcv⟩ := HC1.out hv
                have HNX' := Lib.hid (show cn (8 * k + (j + 1)) = c + 1 by rw [HNX.out, hv]; rfl)
                have hd1 : decide ((r : Int) ≤ (k : Int)) = true := decide_eq_true (by omega)
                have hd2 : decide ((k : Int) - (r : Int) < 8) = true := decide_eq_true (by omega)
                have hci : (c : Int) < 64 := by omega
                have hval : scV false c = 8 * (r : Int) + (k : Int) - (r : Int) := by unfold scV; rw [hcv]; omega
                have hcg := hb.out.cell c
                rw [arr_get hc64] at hcg
                have hfz := hb.out.frozen c
                obtain ⟨s1, s2⟩ := hb.out.set1 c (.int .i64 (8 * (r : Int) + (k : Int) - (r : Int)))
                rw [arr_set_upto (x := scV false) (v := 8 * (r : Int) + (k : Int) - (r : Int)) hc64 hval] at s1
                have On := Lib.hid (ho.own s2 (by omega))
                have Onn := Lib.hid (hoo.same s2)
                have Hb := Lib.hid s1
                clear s1 s2 hval hcv hv key HC1 HIN HR HNX ho hoo hb
                go_wp2_with fail
                go_roundw
                case rel => exact ⟨j + 1, by omega, by go_num, by rw [HNX'.out]; go_num, On.out, Onn.out, by rw [HNX'.out]; exact Hb⟩
                case measure => simp [intOf]; omega
              | false =>
                have hv1 := (key false hv).2 rfl
                have HNX' := Lib.hid (show cn (8 * k + (j + 1)) = c by rw [HNX.out, hv]; rfl)
                by_cases hrk : r ≤ k
                · have hd1 : decide ((r : Int) ≤ (k : Int)) = true := decide_eq_true (by omega)
                  have hd2 : decide ((k : Int) - (r : Int) < 8) = false := decide_eq_false (by omega)
                  clear hv key HC1 HIN HR HNX hv1
                  go_wp2_with fail
                  go_roundw
                  case rel => exact ⟨j + 1, by omega, by go_num, by rw [HNX'.out], ho, hoo, by rw [HNX'.out]; exact hb⟩
                  case measure => simp [intOf]; omega
                · have hd1 : decide ((r : Int) ≤ (k : Int)) = false := decide_eq_false (by omega)
                  have hd3 : decide (r ≤ k) = false := decide_eq_false hrk
                  have hkr : k < r := by omega
                  clear hv key HC1 HIN HR HNX hv1 hrk
                  go_wp2_with fail
                  go_roundw
                  case rel => exact ⟨j + 1, by omega, by go_num, by rw [HNX'.out], ho, hoo, by rw [HNX'.out]; exact hb⟩
                  case measure => simp [intOf]; omega
            · have hre : r = j := by have := HR.out; unfold rw6 at this; rw [if_neg hpar] at this; exact this
              have hp2 : ((k : Int) % 2 == 0) = false := by rw [beq_eq_false_iff_ne]; omega
              subst hre
              clear hpar
              cases hv : inB k r with
              | true =>
                obtain ⟨hv1, hv2⟩ := (key true hv).1 rfl
                obtain ⟨hc64, hcv⟩ := HC1.out hv
                have HNX' := Lib.hid (show cn (8 * k + (r + 1)) = c + 1 by rw [HNX.out, hv]; rfl)
                have hd1 : decide ((r : Int) ≤ (k : Int)) = true := decide_eq_true (by omega)
                have hd2 : decide ((k : Int) - (r : Int) < 8) = true := decide_eq_true (by omega)
                have hci : (c : Int) < 64 := by omega
                have hval : scV false c = 8 * (r : Int) + (k : Int) - (r : Int) := by unfold scV; rw [hcv]; omega
                have hcg := hb.out.cell c
                rw [arr_get hc64] at hcg
                have hfz := hb.out.frozen c
                obtain ⟨s1, s2⟩ := hb.out.set1 c (.int .i64 (8 * (r : Int) + (k : Int) - (r : Int)))
                rw [arr_set_upto (x := scV false) (v := 8 * (r : Int) + (k : Int) - (r : Int)) hc64 hval] at s1
                have On := Lib.hid (ho.own s2 (by omega))
                have Onn := Lib.hid (hoo.same s2)
                have Hb := Lib.hid s1
                clear s1 s2 hval hcv hv key HC1 HIN HR HNX ho hoo hb
                go_wp2_with fail
                go_roundw
                case rel => exact ⟨r + 1, by omega, by go_num, by rw [HNX'.out]; go_num, On.out, Onn.out, by rw [HNX'.out]; exact Hb⟩
                case measure => simp [intOf]; omega
              | false =>
                have hv1 := (key false hv).2 rfl
                have HNX' := Lib.hid (show cn (8 * k + (r + 1)) = c by rw [HNX.out, hv]; rfl)
                by_cases hrk : r ≤ k
                · have hd1 : decide ((r : Int) ≤ (k : Int)) = true := decide_eq_true (by omega)
                  have hd2 : decide ((k : Int) - (r : Int) < 8) = false := decide_eq_false (by omega)
                  clear hv key HC1 HIN HR HNX hv1
                  go_wp2_with fail
                  go_roundw
                  case rel => exact ⟨r + 1, by omega, by go_num, by rw [HNX'.out], ho, hoo, by rw [HNX'.out]; exact hb⟩
                  case measure => simp [intOf]; omega
                · have hd1 : decide ((r : Int) ≤ (k : Int)) = false := decide_eq_false (by omega)
                  have hd3 : decide (r ≤ k) = false := decide_eq_false hrk
                  have hkr : k < r := by omega
                  clear hv key HC1 HIN HR HNX hv1 hrk
                  go_wp2_with fail
                  go_roundw
                  case rel => exact ⟨r + 1, by omega, by go_num, by rw [HNX'.out], ho, hoo, by rw [HNX'.out]; exact hb⟩
                  case measure => simp [intOf]; omega
          · have hje : j = 8 := by omega
            subst hje
            go_wp2_with fail
            go_roundw
            case rel => exact ⟨k + 1, by omega, by go_num, by rw [show 8 * (k + 1) = 8 * k + 8 by omega], ho, hoo, hb⟩
            case measure => simp [intOf]; omega
      · obtain rfl : k = 15 := by omega
        have hb' := hb.out
        rw [show cn (8 * 15) = 64 from cn_end, arr_upto_all (by omega)] at hb'
        have h0 := h02.only hoo (by simp; omega)
        clear hb
        go_wp2_with (first | refine ld64 hb' rfl rfl rfl ?_ | (refine sr64 h0 rfl rfl rfl rfl ?_; rintro w6 b6 o6 e6))
        exact bodyPost_ret (res64 rfl b6 rfl) rfl ⟨rfl, ho.own o6 (by omega)⟩
end Go.Proofs.YtmjjdehicngffaaDoor
