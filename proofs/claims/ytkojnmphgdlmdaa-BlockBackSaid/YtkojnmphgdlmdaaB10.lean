/- The contract of the reference's Take; Take of no reader. -/
import Derived.Test.YtkojnmphgdlmdaaB9
namespace Go.Proofs.Ytkojnmphgdlmdaa
open Go.RowKit bt

theorem resTT {fn : Func} (h : fn.results = #[.cell 4 23, .tmp 5]) {tmps : Array Value} {w : World} {g4 : Nat} {x : Nat → Int} {v : Value} (hb : Blk w g4 23 (arr .i64 64 x))
    (hp : tmps.getD 4 undef = .pointer (some ⟨g4, 0, none⟩)) (hq : tmps.getD 5 undef = v) : (results fn tmps).run Try.prog w = .ok (.tuple #[.agg (arr .i64 64 x), v]) w := by
  have hp' : tmps[4]?.getD undef = .pointer (some ⟨g4, 0, none⟩) := by simpa using hp
  have hq' : tmps[5]?.getD undef = v := by simpa using hq
  simp [results, h, hp', hq', asAddr, run_loadVar_row w g4 23 23 _ (0, 0) _ hb Try.underlying23 rfl (info_of_arr _)]
theorem takeNil_any (w : World) (f : Int) : Calls Try.prog 18 #[.pointer none, .int .i64 f] w fun e w' => e = .returned (.tuple #[.agg (arr .i64 64 z64), .int .i64 1]) ∧ Only [] w w' := by
  go_enter_defers Try.func18, Try.ntmps18
  have tok : True := trivial
  have tok2 : True := trivial
  have tok3 : True := trivial
  have tok4 : True := trivial
  go_wp2_with (first | (clear tok; refine al64 rfl rfl ?_; rintro g4 w1 b1 o1 l1) | (clear tok2; refine alE rfl rfl ?_; rintro g5 w2 b2 o2 l2; have b4 := b1.only o2 (by simp); have h45 : g4 ≠ g5 := (by have := b1.lt; omega)) | (clear tok3; refine bld64 rfl rfl ?_) | (clear tok4; refine sr64 (y := fun _ => 0) b4 rfl rfl rfl rfl ?_; rintro w5 b45 o5 l5; have b55 := b2.only o5 (by simp [Ne.symm h45]); have c5 : w5.cell? ⟨g5, 0, none⟩ = some (.int .i64 0) := b55.cell 0; have z5 := b55.frozen 0; obtain ⟨s1, s2⟩ := b55.set1 0 (.int .i64 1); have S1 := Lib.hid s1; have S2 := Lib.hid s2; clear s1 s2))
  refine ⟨_, resTE rfl (b45.far (p := ⟨g5, 0, none⟩) h45 _) S1.out rfl rfl, rfl, ?_⟩
  exact ((o1.then o2).first o5 (by simp; exact l1)).first S2.out (by simp; have := o1.size; omega)
theorem RefIs.new {w w' : World} {g b c : Nat} {l : List Bool} {at_ : Nat} {F : List Nat} (h : RefIs w g b c l at_) (ho : Only F w w') (hg : g ∉ F) (hb : 0 < l.length → b ∉ F) : RefIs w' g b c l at_ :=
  ⟨h.1.only ho hg, h.2.1.only ho (fun hn ad e => by injection e with e; subst e; exact hb hn), h.2.2⟩
def RefTakeC (w : World) (g b c : Nat) (l : List Bool) (at0 : Nat) (R : Int × (Nat → Int) × Nat) (e : Ending) (w' : World) : Prop :=
  ((R.1 = 0 ∧ e = .returned (.tuple #[.agg (arr .i64 64 R.2.1), .int .i64 0]) ∧ RefIs w' g b c l (at0 + R.2.2)) ∨ (R.1 ≠ 0 ∧ e = .returned (.tuple #[.agg (arr .i64 64 z64), .int .i64 R.1]) ∧ ∃ at_, RefIs w' g b c l at_)) ∧ Only [g] w w'
theorem RefTakeC.bad {w w' : World} {g b c : Nat} {l : List Bool} {at0 at_ : Nat} {R : Int × (Nat → Int) × Nat} {r : Int} (h : R.1 = r) (hr : r ≠ 0) (hR : RefIs w' g b c l at_) (ho : Only [g] w w') :
    RefTakeC w g b c l at0 R (.returned (.tuple #[.agg (arr .i64 64 z64), .int .i64 r])) w' := ⟨.inr ⟨by rw [h]; exact hr, by rw [h], at_, hR⟩, ho⟩
set_option maxHeartbeats 4000000 in
set_option maxRecDepth 100000 in
theorem refBTake_any (w : World) (g b c : Nat) (l : List Bool) (at0 : Nat) (h : RefIs w g b c l at0) (f : Int) (R : Int × (Nat → Int) × Nat) (hR : TR f (l.drop at0) = R) :
    Calls Try.prog 19 #[.pointer (some ⟨g, 0, none⟩), .int .i64 f] w (RefTakeC w g b c l at0 R) := by
  have HR := Lib.hid h
  have hgl : g < w.heap.size := h.1.lt
  have HRR := Lib.hid hR
  have hlt0 : 0 < l.length → b < w.heap.size := fun hl => h.2.1.lt (by omega) hl _ rfl
  clear h hR
  go_enter Try.func19, Try.ntmps19
  have tok : True := trivial
  have tok2 : True := trivial
  by_cases hf : f = 0 ∨ f = 1
  · obtain ⟨f0, rfl⟩ : ∃ f0 : Nat, f = (f0 : Int) := ⟨f.toNat, by omega⟩
    have hR' : tk (65 - f0) z64 f0 (l.drop at0) = R := by have := HRR.out; unfold TR at this; rw [if_pos hf, Int.toNat_natCast] at this; exact this
    have HT0 := TI.start l at0 f0 (by omega)
    rw [hR'] at HT0
    have HT := Lib.hid HT0
    have hd : (((f0 : Int) != 0) = false) ∨ (((f0 : Int) != 0) = true ∧ ((f0 : Int) != 1) = false) := by
      have hf1 : f0 = 0 ∨ f0 = 1 := by omega
      rcases hf1 with rfl | rfl
      · exact .inl rfl
      · exact .inr ⟨rfl, rfl⟩
    have hf2 : f0 ≤ 1 := by omega
    clear hf hR' HRR HT0
    rcases hd with hd1 | ⟨hd1, hd2⟩
    all_goals
      go_wp2_with (first | (clear tok; refine al64 rfl rfl ?_; rintro g4 w1 b1 o1 l1) | (clear tok2; refine al64 rfl rfl ?_; rintro g5 w2 b2 o2 l2))
      clear hd1
      rw [z64_arr] at b1 b2
      have b4 := b1.only o2 (by simp)
      have ho2 := o1.then o2
      have h45 : g4 ≠ g5 := by have := b1.lt; omega
      have hg5 : w.heap.size ≤ g5 := by have := o1.size; omega
      have hb4 : 0 < l.length → b ≠ g4 := fun hl => by have := hlt0 hl; omega
      have hb5 : 0 < l.length → b ≠ g5 := fun hl => by have := hlt0 hl; omega
      have Hb4 := Lib.hid hb4
      have Hb5 := Lib.hid hb5
      have HR2 := Lib.hid (HR.out.only ho2 (by simp) (by simp))
      have H4 := Lib.hid b4
      have H5 := Lib.hid b2
      clear b1 o1 o2 b4 b2 HR hb4 hb5 hlt0
      go_loopw [7] (fun pv wr => ∃ a at_ : Nat, a ≤ 64 ∧ pv = .int .i64 (a : Int) ∧ ∃ x, Hid (TI l at0 R x a at_) ∧ Hid (RefIs wr g b c l at_) ∧ Hid (Blk wr g4 23 (arr .i64 64 z64)) ∧ Hid (Blk wr g5 23 (arr .i64 64 x)) ∧ Hid (Only [g] w wr)) (fun pv _ => 64 - (intOf pv).toNat)
      case atStart => exact ⟨f0, at0, by omega, by go_num, z64, HT, HR2, H4, H5, ho2.mono (by simp)⟩
      case round =>
        obtain ⟨a, at_, ha64, rfl, x, HTI, HRd, HB4, HB5, HO⟩ := hrel
        go_wp2_with fail
        refine (refTakeU_any _ g b c l at_ HRd.out).mono ?_
        have hvl := uVal_le (l.drop at_)
        have HE1 := Lib.hid (fun he => HTI.out.err1 he)
        have HFin := Lib.hid (fun h1 h2 => HTI.out.fin h1 h2)
        have HE2 := Lib.hid (fun h1 h2 h3 => HTI.out.err2 h1 h2 h3)
        have HE3 := Lib.hid (fun h1 h2 h3 h4 => HTI.out.err3 h1 h2 h3 h4)
        have HE4 := Lib.hid (fun h1 h2 h3 h4 h5 => HTI.out.err4 h1 h2 h3 h4 h5)
        have HST := Lib.hid (fun h1 h2 h3 h4 h5 => HTI.out.step h1 h2 h3 h4 h5)
        clear HTI
        generalize hL : uLen (l.drop at_) = L1 at HE1 HFin HE2 HE3 HE4 HST ⊢
        generalize hV : uVal (l.drop at_) = V at hvl HE1 HFin HE2 HE3 HE4 HST ⊢
        generalize hE : uErr (l.drop at_) = E at HE1 HFin HE2 HE3 HE4 HST ⊢
        clear hL hV hE
        rintro e w3 ⟨rfl, hR3, o3⟩
        have HR3 := Lib.hid hR3
        have hg4g : g4 ≠ g := by omega
        have hg5g : g5 ≠ g := by omega
        have HB43 := Lib.hid (HB4.out.only o3 (by simpa using hg4g))
        have HB53 := Lib.hid (HB5.out.only o3 (by simpa using hg5g))
        have HO3 := Lib.hid (HO.out.trans o3 (Fresh.refl _ _))
        clear hR3 o3 HB4 HB5 HO HRd
        by_cases hE0 : E = 0
        · subst hE0
          by_cases hV0 : V = 0
          · subst hV0
            have tok : True := trivial
            have tok2 : True := trivial
            go_wp2_with (first | (clear tok; refine ld64 (x := x) HB53.out rfl rfl rfl ?_) | (clear tok2; refine sr64 (y := x) HB43.out rfl rfl rfl rfl ?_; rintro w5 b5 o5 l5))
            refine bodyPost_ret (resTT rfl b5 rfl rfl) rfl ?_
            obtain ⟨r1, r2, r3⟩ := HFin.out (by trivial) (by trivial)
            refine ⟨.inl ⟨r1, by rw [r2]; rfl, ?_⟩, ?_⟩
            · rw [r3]; exact HR3.out.new o5 (by simp; omega) (fun hl => by have := Hb4.out hl; simpa using this)
            · exact HO3.out.trans o5 (fun k hk => .inr (by simp at hk; subst hk; exact l1))
          · have hVd : ((V : Int) == 0) = false := by simpa using hV0
            have hV1 : 1 ≤ (V : Int) := by omega
            by_cases hA : 63 < a + V - 1
            · have HX := Lib.hid (HE2.out (by trivial) hV0 hA)
              have hAd : 63 < (a : Int) + V - 1 := by omega
              clear hA hV0
              have tok : True := trivial
              have tok2 : True := trivial
              go_wp2_with (first | (clear tok; refine bld64 rfl rfl ?_) | (clear tok2; refine sr64 (y := z64) HB43.out rfl rfl rfl rfl ?_; rintro w5 b5 o5 l5))
              refine bodyPost_ret (resTT rfl b5 rfl rfl) rfl ?_
              exact RefTakeC.bad HX.out (by omega) (HR3.out.new o5 (by simp; omega) (fun hl => by have := Hb4.out hl; simpa using this)) (HO3.out.trans o5 (fun k hk => .inr (by simp at hk; subst hk; exact l1)))
            · have hAd : (a : Int) + V - 1 < 64 := by omega
              obtain ⟨q, hq⟩ : ∃ q : Nat, a + V - 1 = q := ⟨_, rfl⟩
              have hqi : (a : Int) + V - 1 = (q : Int) := by omega
              have hq64 : q < 64 := by omega
              have hqa : a ≤ q := by omega
              have HE3' := Lib.hid (HE3.out (by trivial) hV0 hA)
              have HE4' := Lib.hid (HE4.out (by trivial) hV0 hA)
              have HST' := Lib.hid (HST.out (by trivial) hV0 hA)
              rw [hq] at HST'
              clear hA hV0 HE3 HE4 HST HE2 HE1 HFin hq
              have hqd : decide (63 < (q : Int)) = false := decide_eq_false (by omega)
              go_wp2_with fail
              refine (refTakeS_any _ g b c l (at_ + L1) HR3.out).mono ?_
              have hsl := sTake_le (l.drop (at_ + L1))
              generalize hL : uLen (l.drop (at_ + L1)) = L2 at HE3' HE4' HST' ⊢
              generalize hV2 : sTake (l.drop (at_ + L1)) = v at hsl HE3' HE4' HST' ⊢
              generalize hE : uErr (l.drop (at_ + L1)) = E2 at HE3' HE4' HST' ⊢
              clear hL hV2 hE
              rintro e w4 ⟨rfl, hR4, o4⟩
              have HR4 := Lib.hid hR4
              have HB44 := Lib.hid (HB43.out.only o4 (by simpa using hg4g))
              have b54 := HB53.out.only o4 (by simpa using hg5g)
              have HO4 := Lib.hid (HO3.out.trans o4 (Fresh.refl _ _))
              have c5 := b54.cell q
              rw [arr_get hq64] at c5
              have z5 := b54.frozen q
              obtain ⟨s1, s2⟩ := b54.set1 q (.int .i64 v)
              rw [arr_set v hq64] at s1
              have S1 := Lib.hid s1
              have O5 := Lib.hid (HO4.out.trans s2 (fun k hk => .inr (by simp at hk; subst hk; exact hg5)))
              have B45 := Lib.hid (HB44.out.only s2 (by simpa using h45))
              have R5 := Lib.hid (HR4.out.new s2 (by simp; omega) (fun hl => by have := Hb5.out hl; simpa using this))
              clear hR4 o4 HR3 HB43 HB53 HO3 b54 s1 s2
              by_cases hE2 : E2 = 0
              · subst hE2
                by_cases hv0 : v = 0
                · have HX := Lib.hid (HE4'.out (by trivial) (.inl hv0))
                  have hvd : (v == 0) = true := by simpa using hv0
                  clear hv0 HE4' HST' HE3'
                  have tok : True := trivial
                  have tok2 : True := trivial
                  go_wp2_with (first | (clear tok; refine bld64 rfl rfl ?_) | (clear tok2; refine sr64 (y := z64) HB44.out rfl rfl rfl rfl ?_; rintro w5 b5 o5 l5))
                  refine bodyPost_ret (resTT rfl b5 rfl rfl) rfl ?_
                  exact RefTakeC.bad HX.out (by omega) (HR4.out.new o5 (by simp; omega) (fun hl => by have := Hb4.out hl; simpa using this)) (HO4.out.trans o5 (fun k hk => .inr (by simp at hk; subst hk; exact l1)))
                · have hvd : (v == 0) = false := by simpa using hv0
                  go_wp2_with fail
                  refine (level_any _ _).mono ?_
                  rintro e w7 ⟨rfl, rfl⟩
                  cases hlv : lvl v with
                  | false =>
                    have HX := Lib.hid (HE4'.out (by trivial) (.inr hlv))
                    clear hlv HE4' HST' HE3' hv0
                    have tok : True := trivial
                    have tok2 : True := trivial
                    go_wp2_with (first | (clear tok; refine bld64 rfl rfl ?_) | (clear tok2; refine sr64 (y := z64) HB44.out rfl rfl rfl rfl ?_; rintro w5 b5 o5 l5))
                    refine bodyPost_ret (resTT rfl b5 rfl rfl) rfl ?_
                    exact RefTakeC.bad HX.out (by omega) (HR4.out.new o5 (by simp; omega) (fun hl => by have := Hb4.out hl; simpa using this)) (HO4.out.trans o5 (fun k hk => .inr (by simp at hk; subst hk; exact l1)))
                  | true =>
                    have HX := Lib.hid (HST'.out (by trivial) (by simp [hlv, hv0]))
                    clear hlv HE4' HST' HE3' hv0
                    go_wp2_with fail
                    go_roundw
                    case rel => exact ⟨q + 1, _, by omega, by go_num, _, HX, R5, B45, S1, O5⟩
                    case measure => simp [intOf]; omega
              · have HX := Lib.hid (HE3'.out hE2)
                have hE2' : (E2 != 0) = true := by simpa using hE2
                have HE2n := Lib.hid (show E2 ≠ 0 from hE2)
                clear hE2
                have tok : True := trivial
                have tok2 : True := trivial
                go_wp2_with (first | (clear tok; refine bld64 rfl rfl ?_) | (clear tok2; refine sr64 (y := z64) HB44.out rfl rfl rfl rfl ?_; rintro w5 b5 o5 l5))
                refine bodyPost_ret (resTT rfl b5 rfl rfl) rfl ?_
                exact RefTakeC.bad HX.out HE2n.out (HR4.out.new o5 (by simp; omega) (fun hl => by have := Hb4.out hl; simpa using this)) (HO4.out.trans o5 (fun k hk => .inr (by simp at hk; subst hk; exact l1)))
        · have HX := Lib.hid (HE1.out hE0)
          have hE2' : (E != 0) = true := by simpa using hE0
          have HE2n := Lib.hid (show E ≠ 0 from hE0)
          clear hE0
          have tok : True := trivial
          have tok2 : True := trivial
          go_wp2_with (first | (clear tok; refine bld64 rfl rfl ?_) | (clear tok2; refine sr64 (y := z64) HB43.out rfl rfl rfl rfl ?_; rintro w5 b5 o5 l5))
          refine bodyPost_ret (resTT rfl b5 rfl rfl) rfl ?_
          exact RefTakeC.bad HX.out HE2n.out (HR3.out.new o5 (by simp; omega) (fun hl => by have := Hb4.out hl; simpa using this)) (HO3.out.trans o5 (fun k hk => .inr (by simp at hk; subst hk; exact l1)))
  · have hR' : R = (1, z64, 0) := by rw [← HRR.out]; unfold TR; rw [if_neg hf]
    subst hR'
    have hd1 : (f != 0) = true := by simp; omega
    have hd2 : (f != 1) = true := by simp; omega
    have hb4 : ∀ g4, w.heap.size ≤ g4 → 0 < l.length → b ∉ [g4] := fun g4 hg hl => by have := hlt0 hl; simp; omega
    clear hf HRR hlt0
    have tok3 : True := trivial
    have tok4 : True := trivial
    go_wp2_with (first | (clear tok; refine al64 rfl rfl ?_; rintro g4 w1 b1 o1 l1) | (clear tok2; refine al64 rfl rfl ?_; rintro g5 w2 b2 o2 l2; have b4 := b1.only o2 (by simp)) | (clear tok3; refine ld64 (x := fun _ => 0) b2 rfl rfl rfl ?_) | (clear tok4; refine sr64 (y := z64) b4 rfl rfl rfl rfl ?_; rintro w5 b5 o5 l5))
    refine bodyPost_ret (resTT rfl b5 rfl rfl) rfl ?_
    have ho2 := o1.then o2
    exact RefTakeC.bad rfl (by omega) ((HR.out.only ho2 (by simp) (by simp)).new o5 (by simp; omega) (hb4 g4 l1)) ((ho2.mono (by simp)).trans o5 (fun k hk => .inr (by simp at hk; subst hk; exact l1)))
end Go.Proofs.Ytkojnmphgdlmdaa
