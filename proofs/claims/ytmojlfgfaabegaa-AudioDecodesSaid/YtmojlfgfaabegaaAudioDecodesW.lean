/- Proved: AudioDecodes returns true for all its arguments, which read afterwards as before. No condition. -/
import Derived.Test.YtmojlfgfaabegaaA25
import Derived.Test.YtmojlfgfaabegaaOp
namespace Go.Proofs.Ytmojlfgfaabegaa.audioDecodes
open Go.ChangeShapes Go.WideShapes Go.ChangeAt Go.RowKit bt

theorem DE_le (p : List Nat) : (DE p).1.length ≤ 4 ∧ (∀ l ∈ (DE p).1, l.length ≤ 1048576) ∧ (DE p).2.1.length ≤ 40000 := by
  unfold DE
  by_cases h : (HD p).2 = 0
  · rw [if_pos h]
    obtain ⟨_, ⟨_, h2⟩, h3⟩ := HD_ok h
    split
    · simp
    · refine ⟨by simp; omega, fun l hl => ?_, ?_⟩
      · simp only [List.mem_map, List.mem_range] at hl
        obtain ⟨c, hc, rfl⟩ := hl
        rw [rowTo_len hc _ (nblk_bd _)]
        omega
      · have := badTo_len p (HD p).1.1 (HD p).1.2 (szN (HD p).1.1) (nblk (HD p).1.2)
        have h4 : nblk (HD p).1.2 ≤ 40000 := by unfold nblk; omega
        exact Nat.le_trans this h4
  · rw [if_neg h]
    simp
set_option maxRecDepth 100000 in
set_option maxHeartbeats 4000000 in
theorem walk (w : World) (A : Option Addr) (c : Nat) (p : List Nat) (hr : Reads w A 1 p.length (bytesV p)) (hc : p.length ≤ c) (hm : p.length ≤ maxLen) (hb : ∀ x ∈ p, x < 256) :
    Calls Try.prog 7 #[.slice A p.length c] w fun e w' => e = .returned (.bool true) ∧ Only [] w w' := by
  unfold maxLen at hm
  have HR := Lib.hid hr
  have HB := Lib.hid hb
  clear hr hb
  go_enter Try.func7, Try.ntmps7
  by_cases h5 : 3000 < p.length
  · have h5' : (3000 : Int) < (p.length : Int) := by omega
    clear h5
    go_wp2_with fail
    go_ret
    exact ⟨rfl, Only.refl _ _⟩
  have h5' : decide ((3000 : Int) < (p.length : Int)) = false := decide_eq_false (by omega)
  have h5l : p.length ≤ 3000 := by omega
  clear h5
  by_cases h7 : 7 < p.length
  · have h7' : (7 : Int) < (p.length : Int) := by omega
    obtain ⟨b, off, rfl, hcell⟩ := HR.out.plain (by omega) (by omega)
    obtain ⟨x, hx⟩ : ∃ x, p[5]? = some x := ⟨_, List.getElem?_eq_getElem (by omega)⟩
    have cx := hcell 5 (.int .u8 (x : Int)) (by simp [bytesV, hx])
    have hx5 : (5 : Int) < (p.length : Int) := by omega
    clear hcell hx h7
    by_cases hx0 : 0 < x
    · have hx0' : (0 : Int) < (x : Int) := by omega
      clear hx0
      go_wp2_with fail
      go_ret
      exact ⟨rfl, Only.refl _ _⟩
    · have hx0' : x = 0 := by omega
      subst hx0'
      clear hx0
      go_wp2_with fail
      clear cx hx5 h7' h5'
      refine (decode_any _ _ c p HR.out hc HB.out (by omega)).mono ?_
      rintro e w1 ⟨A1, c1, hs1, B1, d1, rfl, p1, r1, o1⟩
      have HP1 := Lib.hid p1
      have HN1 := Lib.hid r1
      have HO1 := Lib.hid o1
      clear p1 r1 o1
      go_wp2_with fail
      refine (refDecode_any _ _ c p (HR.out.then HO1.out) hc HB.out (by omega)).mono ?_
      rintro e w2 ⟨A2, c2, hs2, B2, d2, rfl, p2, r2, o2⟩
      have HP2 := Lib.hid p2
      have HN2 := Lib.hid r2
      have HP1' := Lib.hid (HP1.out.then o2)
      have HN1' := Lib.hid (HN1.out.then o2)
      have HO2 := Lib.hid (HO1.out.then o2)
      obtain ⟨hq1, hq2, hq3⟩ := DE_le p
      have HQ2 := Lib.hid hq2
      clear p2 r2 o2 HP1 HN1 HO1 hq2
      generalize (DE p).1 = ls at HP2 HP1' hq1 HQ2 ⊢
      generalize (DE p).2.1 = bd at HN2 HN1' hq3 ⊢
      generalize (DE p).2.2 = r
      go_wp2_with fail
      refine (awake_any _).mono ?_
      rintro e w3 ⟨rfl, o3⟩
      have HP3 := Lib.hid (HP1'.out.then o3)
      have HP4 := Lib.hid (HP2.out.then o3)
      have HN3 := Lib.hid (HN1'.out.then o3)
      have HN4 := Lib.hid (HN2.out.then o3)
      have HO3 := Lib.hid (HO2.out.then o3)
      clear o3 HP1' HP2 HN1' HN2 HO2
      go_wp2_with fail
      refine (samePcm_any _ A1 A2 c1 c2 hs1 hs2 ls HP3.out HP4.out (by omega) (fun l hl => by have := HQ2.out l hl; omega)).mono ?_
      rintro e w4 ⟨rfl, o4⟩
      have HN5 := Lib.hid (HN3.out.then o4)
      have HN6 := Lib.hid (HN4.out.then o4)
      have HO4 := Lib.hid (HO3.out.then o4)
      clear o4 HN3 HN4 HO3 HP3 HP4
      go_wp2_with fail
      refine (sameNumbers_any _ B1 B2 d1 d2 bd HN5.out HN6.out (by omega)).mono ?_
      rintro e w5 ⟨rfl, o5⟩
      have HO5 := Lib.hid (HO4.out.then o5)
      clear o5
      go_wp2_with fail
      go_ret
      exact ⟨rfl, HO5.out⟩
  · have h7' : decide ((7 : Int) < (p.length : Int)) = false := decide_eq_false (by omega)
    clear h7
    go_wp2_with fail
    clear h5' h7'
    refine (decode_any _ _ c p HR.out hc HB.out (by omega)).mono ?_
    rintro e w1 ⟨A1, c1, hs1, B1, d1, rfl, p1, r1, o1⟩
    have HP1 := Lib.hid p1
    have HN1 := Lib.hid r1
    have HO1 := Lib.hid o1
    clear p1 r1 o1
    go_wp2_with fail
    refine (refDecode_any _ _ c p (HR.out.then HO1.out) hc HB.out (by omega)).mono ?_
    rintro e w2 ⟨A2, c2, hs2, B2, d2, rfl, p2, r2, o2⟩
    have HP2 := Lib.hid p2
    have HN2 := Lib.hid r2
    have HP1' := Lib.hid (HP1.out.then o2)
    have HN1' := Lib.hid (HN1.out.then o2)
    have HO2 := Lib.hid (HO1.out.then o2)
    obtain ⟨hq1, hq2, hq3⟩ := DE_le p
    have HQ2 := Lib.hid hq2
    clear p2 r2 o2 HP1 HN1 HO1 hq2
    generalize (DE p).1 = ls at HP2 HP1' hq1 HQ2 ⊢
    generalize (DE p).2.1 = bd at HN2 HN1' hq3 ⊢
    generalize (DE p).2.2 = r
    go_wp2_with fail
    refine (awake_any _).mono ?_
    rintro e w3 ⟨rfl, o3⟩
    have HP3 := Lib.hid (HP1'.out.then o3)
    have HP4 := Lib.hid (HP2.out.then o3)
    have HN3 := Lib.hid (HN1'.out.then o3)
    have HN4 := Lib.hid (HN2.out.then o3)
    have HO3 := Lib.hid (HO2.out.then o3)
    clear o3 HP1' HP2 HN1' HN2 HO2
    go_wp2_with fail
    refine (samePcm_any _ A1 A2 c1 c2 hs1 hs2 ls HP3.out HP4.out (by omega) (fun l hl => by have := HQ2.out l hl; omega)).mono ?_
    rintro e w4 ⟨rfl, o4⟩
    have HN5 := Lib.hid (HN3.out.then o4)
    have HN6 := Lib.hid (HN4.out.then o4)
    have HO4 := Lib.hid (HO3.out.then o4)
    clear o4 HN3 HN4 HO3 HP3 HP4
    go_wp2_with fail
    refine (sameNumbers_any _ B1 B2 d1 d2 bd HN5.out HN6.out (by omega)).mono ?_
    rintro e w5 ⟨rfl, o5⟩
    have HO5 := Lib.hid (HO4.out.then o5)
    clear o5
    go_wp2_with fail
    go_ret
    exact ⟨rfl, HO5.out⟩
end Go.Proofs.Ytmojlfgfaabegaa.audioDecodes
