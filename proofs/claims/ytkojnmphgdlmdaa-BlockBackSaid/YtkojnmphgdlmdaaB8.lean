/- The contract of read. -/
import Derived.Test.YtkojnmphgdlmdaaB7
namespace Go.Proofs.Ytkojnmphgdlmdaa
open Go.RowKit bt

theorem uVal_le (m : List Bool) : (uVal m : Int) ≤ 65534 := by
  by_cases he : uErr m = 0
  · have h1 : zrun m ≤ 15 := by
      unfold uErr at he
      split at he
      · cases he
      · omega
    have h2 := num_lt ((m.drop (zrun m + 1)).take (zrun m))
    have h3 : ((m.drop (zrun m + 1)).take (zrun m)).length ≤ zrun m := by simp; omega
    have h4 : 2 ^ ((m.drop (zrun m + 1)).take (zrun m)).length ≤ 2 ^ zrun m := Nat.pow_le_pow_right (by omega) h3
    have h5 : 2 ^ zrun m ≤ 2 ^ 15 := Nat.pow_le_pow_right (by omega) h1
    unfold uVal
    rw [if_pos he]
    omega
  · unfold uVal
    rw [if_neg he]
    omega
theorem sTake_le (m : List Bool) : -70000 ≤ sTake m ∧ sTake m ≤ 70000 := by
  have := uVal_le m
  unfold sTake
  split
  · unfold sVal
    split <;> omega
  · omega
def ReadC (w : World) (g b : Nat) (p : List Nat) (n at0 : Nat) (R : Int × (Nat → Int) × Nat) (e : Ending) (w' : World) : Prop :=
  ((R.1 = 0 ∧ e = .returned (.agg (arr .i64 64 R.2.1)) ∧ ReaderIs w' g b p n (at0 + R.2.2)) ∨ (R.1 ≠ 0 ∧ e = .panicked [{ v := flr R.1, recovered := false }] ∧ ∃ at_, ReaderIs w' g b p n at_)) ∧ Only [g] w w'
theorem ReadC.bad {w w' : World} {g b : Nat} {p : List Nat} {n at0 at_ : Nat} {R : Int × (Nat → Int) × Nat} {r : Int} (h : R.1 = r) (hr : r ≠ 0) (hR : ReaderIs w' g b p n at_) (ho : Only [g] w w') :
    ReadC w g b p n at0 R (.panicked [{ v := flr r, recovered := false }]) w' := ⟨.inr ⟨by rw [h]; exact hr, by rw [h], at_, hR⟩, ho⟩
set_option maxHeartbeats 4000000 in
set_option maxRecDepth 100000 in
theorem read_any (w : World) (g b : Nat) (p : List Nat) (n at0 : Nat) (h : ReaderIs w g b p n at0) (f : Nat) (hf : f ≤ 1) (R : Int × (Nat → Int) × Nat) (hR : tk (65 - f) z64 f ((bitsIn p n).drop at0) = R) :
    Calls Try.prog 36 #[.pointer (some ⟨g, 0, none⟩), .int .i64 (f : Int)] w (ReadC w g b p n at0 R) := by
  have HT0 := TI.start (bitsIn p n) at0 f (by omega)
  rw [hR] at HT0
  have HT := Lib.hid HT0
  have HR := Lib.hid h
  have hgl : g < w.heap.size := h.1.lt
  have hbl : b < w.heap.size := h.2.1.lt
  clear h HT0 hR
  go_enter Try.func36, Try.ntmps36
  have tok : True := trivial
  have tok2 : True := trivial
  go_wp2_with (first | (clear tok; refine al64 rfl rfl ?_; rintro g4 w1 b1 o1 l1) | (clear tok2; refine al64 rfl rfl ?_; rintro g5 w2 b2 o2 l2))
  rw [z64_arr] at b1 b2
  have b4 := b1.only o2 (by simp)
  have ho2 := o1.then o2
  have h45 : g4 ≠ g5 := by have := b1.lt; omega
  have hg5 : w.heap.size ≤ g5 := by have := o1.size; omega
  have HR2 := Lib.hid (HR.out.only ho2 (by simp) (by simp))
  have H4 := Lib.hid b4
  have H5 := Lib.hid b2
  clear b1 o1 o2 b4 b2 HR
  go_loopw [6] (fun pv wr => ∃ a at_ : Nat, a ≤ 64 ∧ pv = .int .i64 ((a : Int) - 1) ∧ ∃ x, Hid (TI (bitsIn p n) at0 R x a at_) ∧ Hid (ReaderIs wr g b p n at_) ∧ Hid (Blk wr g4 23 (arr .i64 64 z64)) ∧ Hid (Blk wr g5 23 (arr .i64 64 x)) ∧ Hid (Only [g] w wr)) (fun pv _ => 64 - (intOf pv + 1).toNat)
  case atStart => exact ⟨f, at0, by omega, by go_num, z64, HT, HR2, H4, H5, ho2.mono (by simp)⟩
  case round =>
    obtain ⟨a, at_, ha64, rfl, x, HTI, HRd, HB4, HB5, HO⟩ := hrel
    go_wp2_with fail
    refine (takeU_any _ g b p n at_ HRd.out).mono ?_
    have hvl := uVal_le ((bitsIn p n).drop at_)
    have HE1 := Lib.hid (fun he => HTI.out.err1 he)
    have HFin := Lib.hid (fun h1 h2 => HTI.out.fin h1 h2)
    have HE2 := Lib.hid (fun h1 h2 h3 => HTI.out.err2 h1 h2 h3)
    have HE3 := Lib.hid (fun h1 h2 h3 h4 => HTI.out.err3 h1 h2 h3 h4)
    have HE4 := Lib.hid (fun h1 h2 h3 h4 h5 => HTI.out.err4 h1 h2 h3 h4 h5)
    have HST := Lib.hid (fun h1 h2 h3 h4 h5 => HTI.out.step h1 h2 h3 h4 h5)
    clear HTI
    generalize hL : uLen ((bitsIn p n).drop at_) = L1 at HE1 HFin HE2 HE3 HE4 HST ⊢
    generalize hV : uVal ((bitsIn p n).drop at_) = V at hvl HE1 HFin HE2 HE3 HE4 HST ⊢
    generalize hE : uErr ((bitsIn p n).drop at_) = E at HE1 HFin HE2 HE3 HE4 HST ⊢
    clear hL hV hE
    rintro e w3 ⟨rfl, hR3, o3⟩
    have HR3 := Lib.hid hR3
    have hg4g : g4 ≠ g := by omega
    have hg5g : g5 ≠ g := by omega
    have HB43 := Lib.hid (HB4.out.only o3 (by simpa using hg4g))
    have HB53 := Lib.hid (HB5.out.only o3 (by simpa using hg5g))
    have HO3 := Lib.hid (HO.out.trans o3 (Fresh.refl _ _))
    clear hR3 o3 HB4 HB5 HO HRd
    go_wp2_with fail
    by_cases hE0 : E = 0
    · subst hE0
      refine (must_ok _ _).mono ?_
      rintro e w4 ⟨rfl, rfl⟩
      by_cases hV0 : V = 0
      · subst hV0
        have tok : True := trivial
        have tok2 : True := trivial
        go_wp2_with (first | (clear tok; refine ld64 (x := x) HB53.out rfl rfl rfl ?_) | (clear tok2; refine sr64 (y := x) HB43.out rfl rfl rfl rfl ?_; rintro w5 b5 o5 l5))
        refine bodyPost_ret (res64 rfl b5 rfl) rfl ?_
        obtain ⟨r1, r2, r3⟩ := HFin.out (by trivial) (by trivial)
        refine ⟨.inl ⟨r1, by rw [r2], ?_⟩, ?_⟩
        · rw [r3]; exact HR3.out.only o5 (by simp; omega) (by simp; omega)
        · exact HO3.out.trans o5 (fun k hk => .inr (by simp at hk; subst hk; exact l1))
      · have hVd : ((V : Int) == 0) = false := by simpa using hV0
        have hV1 : 1 ≤ (V : Int) := by omega
        by_cases hA : 63 < a + V - 1
        · have HX := Lib.hid (HE2.out (by trivial) hV0 hA)
          have hAd : 64 ≤ (a : Int) - 1 + V := by omega
          clear hA hV0
          go_wp2_with fail
          exact ⟨rfl, ReadC.bad HX.out (by omega) HR3.out HO3.out⟩
        · have hAd : (a : Int) - 1 + V < 64 := by omega
          obtain ⟨q, hq⟩ : ∃ q : Nat, a + V - 1 = q := ⟨_, rfl⟩
          have hqi : (a : Int) - 1 + V = (q : Int) := by omega
          have hq64 : q < 64 := by omega
          have hqa : a ≤ q := by omega
          have HE3' := Lib.hid (HE3.out (by trivial) hV0 hA)
          have HE4' := Lib.hid (HE4.out (by trivial) hV0 hA)
          have HST' := Lib.hid (HST.out (by trivial) hV0 hA)
          rw [hq] at HST'
          clear hA hV0 HE3 HE4 HST HE2 HE1 HFin hq
          have hqd : decide (64 ≤ (q : Int)) = false := decide_eq_false (by omega)
          go_wp2_with fail
          refine (takeS_any _ g b p n (at_ + L1) HR3.out).mono ?_
          have hsl := sTake_le ((bitsIn p n).drop (at_ + L1))
          generalize hL : uLen ((bitsIn p n).drop (at_ + L1)) = L2 at HE3' HE4' HST' ⊢
          generalize hV2 : sTake ((bitsIn p n).drop (at_ + L1)) = v at hsl HE3' HE4' HST' ⊢
          generalize hE : uErr ((bitsIn p n).drop (at_ + L1)) = E2 at HE3' HE4' HST' ⊢
          clear hL hV2 hE
          rintro e w4 ⟨rfl, hR4, o4⟩
          have HR4 := Lib.hid hR4
          have HB44 := Lib.hid (HB43.out.only o4 (by simpa using hg4g))
          have b54 := HB53.out.only o4 (by simpa using hg5g)
          have HO4 := Lib.hid (HO3.out.trans o4 (Fresh.refl _ _))
          have c5 := b54.cell q
          rw [arr_get hq64] at c5
          have z5 := b54.frozen q
          obtain ⟨s1, s2⟩ := b54.set1 q (.int .i64 v)
          rw [arr_set v hq64] at s1
          have c6 := s1.cell q
          rw [arr_get hq64, show upd x q v q = v by simp [upd]] at c6
          have S1 := Lib.hid s1
          have O5 := Lib.hid (HO4.out.trans s2 (fun k hk => .inr (by simp at hk; subst hk; exact hg5)))
          have B45 := Lib.hid (HB44.out.only s2 (by simpa using h45))
          have R5 := Lib.hid (HR4.out.only s2 (by simp; omega) (by simp; omega))
          clear hR4 o4 HR3 HB43 HB53 HO3 b54 s1 s2 HB44
          go_wp2_with fail
          by_cases hE2 : E2 = 0
          · subst hE2
            refine (must_ok _ _).mono ?_
            rintro e w6 ⟨rfl, rfl⟩
            by_cases hv0 : v = 0
            · have HX := Lib.hid (HE4'.out (by trivial) (.inl hv0))
              have hvd : (v == 0) = true := by simpa using hv0
              clear hv0 HE4' HST' HE3'
              go_wp2_with fail
              exact ⟨rfl, ReadC.bad HX.out (by omega) R5.out O5.out⟩
            · have hvd : (v == 0) = false := by simpa using hv0
              go_wp2_with fail
              refine (allowed_any _ _).mono ?_
              rintro e w7 ⟨rfl, rfl⟩
              cases hlv : lvl v with
              | false =>
                have HX := Lib.hid (HE4'.out (by trivial) (.inr hlv))
                clear hlv HE4' HST' HE3' hv0
                go_wp2_with fail
                exact ⟨rfl, ReadC.bad HX.out (by omega) R5.out O5.out⟩
              | true =>
                have HX := Lib.hid (HST'.out (by trivial) (by simp [hlv, hv0]))
                clear hlv HE4' HST' HE3' hv0
                go_wp2_with fail
                go_roundw
                case rel => exact ⟨q + 1, _, by omega, by go_num, _, HX, R5, B45, S1, O5⟩
                case measure => simp [intOf]; omega
          · have HX := Lib.hid (HE3'.out hE2)
            have hE2' : (E2 != 0) = true := by simpa using hE2
            have HE2n := Lib.hid (show E2 ≠ 0 from hE2)
            refine (must_bad _ _ _ hE2').mono ?_
            rintro e w6 ⟨rfl, rfl⟩
            clear hE2 hE2'
            go_wp2_with fail
            exact ⟨rfl, ReadC.bad HX.out HE2n.out HR4.out HO4.out⟩
    · have HX := Lib.hid (HE1.out hE0)
      have hE2' : (E != 0) = true := by simpa using hE0
      have HE2n := Lib.hid (show E ≠ 0 from hE0)
      refine (must_bad _ _ _ hE2').mono ?_
      rintro e w6 ⟨rfl, rfl⟩
      clear hE0 hE2'
      go_wp2_with fail
      exact ⟨rfl, ReadC.bad HX.out HE2n.out HR3.out HO3.out⟩
end Go.Proofs.Ytkojnmphgdlmdaa
