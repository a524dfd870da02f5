/- Contract of the reference's Code; the sanity check. -/
import Derived.Test.YtkojnmphgdlmdaaB2
namespace Go.Proofs.Ytkojnmphgdlmdaa
open Go.RowKit bt

def CodedB (w : World) (l : List Bool) (e : Ending) (w' : World) : Prop :=
  ∃ A c, e = .returned (.slice A l.length c) ∧ w'.ownsRow 0 5 1 (.slice A l.length c) l.length (bytesV (flat l)) ∧ Only [] w w'
theorem uCode_of {v : Int} (h : 0 ≤ v ∧ v ≤ 65534) : uCode v = code v.toNat := by unfold uCode; rw [if_pos (uErr_0 h.1 h.2)]
theorem sCode_of {v : Int} (h : -4095 ≤ v ∧ v ≤ 4095) : sCode v = code (fold v) := by unfold sCode; rw [if_pos (sErr_0 h.1 h.2)]
theorem coded_u (w : World) {v : Int} (h : 0 ≤ v ∧ v ≤ 65534) : Calls Try.prog 29 #[.int .i64 v] w (CodedB w (uCode v)) := by
  have := refCode_any w v.toNat (by omega)
  rw [Int.toNat_of_nonneg h.1] at this
  unfold CodedB
  rw [uCode_of h]
  exact this
theorem coded_s (w : World) {v : Int} (h : -4095 ≤ v ∧ v ≤ 4095) : Calls Try.prog 30 #[.int .i64 v] w (CodedB w (sCode v)) := by
  have := refSCode_any w v (by omega)
  unfold CodedB
  rw [sCode_of h]
  exact this
def CodeX (w : World) (x : Nat → Int) (f : Int) (e : Ending) (w' : World) : Prop :=
  ∃ A c, e = .returned (.tuple #[.slice A (bOut x f).length c, .int .i64 (pErr x f)]) ∧ Reads w' A 1 (bOut x f).length (bytesV (flat (bOut x f))) ∧ Only [] w w'
theorem CodeX.of {w w' : World} {x : Nat → Int} {f r : Int} {l : List Bool} {A : Option Addr} {n c : Nat} (h : pErr x f = r ∧ bOut x f = l) (hn : n = l.length) (hr : Reads w' A 1 n (bytesV (flat l))) (ho : Only [] w w') :
    CodeX w x f (.returned (.tuple #[.slice A n c, .int .i64 r])) w' := by
  subst hn
  unfold CodeX
  rw [h.1, h.2]
  exact ⟨A, c, rfl, hr, ho⟩
theorem lvl_true {v : Int} (h : lvl v = true) : -4095 ≤ v ∧ v ≤ 4095 := by unfold lvl at h; simpa using h
set_option maxHeartbeats 2000000 in
set_option maxRecDepth 100000 in
theorem refBCode_any (w : World) (x : Nat → Int) (f : Int) :
    Calls Try.prog 10 #[.agg (arr .i64 64 x), .int .i64 f] w (CodeX w x f) := by
  obtain ⟨i0, hi0, hz0, hz1, hz2⟩ := info_parts info_u8
  go_enter Try.func10, Try.ntmps10
  by_cases hf : f = 0 ∨ f = 1
  · obtain ⟨f0, rfl⟩ : ∃ f0 : Nat, f = (f0 : Int) := ⟨f.toNat, by omega⟩
    have hf1 : f0 = 0 ∨ f0 = 1 := by omega
    have htn : ((f0 : Int)).toNat = f0 := Int.toNat_natCast _
    have hd : (((f0 : Int) != 0) = false) ∨ (((f0 : Int) != 0) = true ∧ ((f0 : Int) != 1) = false) := by
      rcases hf1 with rfl | rfl
      · exact .inl rfl
      · exact .inr ⟨rfl, rfl⟩
    have HF := Lib.hid hf
    have Htn := Lib.hid htn
    have hf2 : f0 ≤ 1 := by omega
    clear hf hf1 htn
    have tok : True := trivial
    rcases hd with hd1 | ⟨hd1, hd2⟩
    all_goals
      go_wp2_with (clear tok; refine bx64 (x := x) rfl rfl rfl ?_; rintro g1 w1 b1 o1 l1)
      clear hd1
      go_loopw [6, 7, 8] (fun o at_ i wr => ∃ p a : Nat, f0 ≤ p ∧ p ≤ 64 ∧ i = .int .i64 (p : Int) ∧ at_ = .int .i64 (a : Int) ∧ ∃ m, Hid (BI x f0 p a m) ∧ Hid (∀ j, j < p → f0 ≤ j → lvl (x j) = true) ∧ ∃ A2 c2, o = .slice A2 m.length c2 ∧ Hid (wr.ownsRow 0 5 1 (.slice A2 m.length c2) m.length (bytesV (flat m))) ∧ Only [] w1 wr ∧ Hid (Fresh w1 [] (rowFp (.slice A2 m.length c2)))) (fun _ _ i _ => 64 - (intOf i).toNat)
      case atStart => exact ⟨f0, f0, Nat.le_refl _, by omega, rfl, rfl, [], BI.start _ _, Lib.hid (fun j h1 h2 => by omega), none, 0, rfl, World.ownsRow_nil _ _ _ _, Only.refl _ _, Lib.hid (by simp [Fresh, rowFp, Value.ownBlock])⟩
      case round =>
        obtain ⟨p, a, hp0, hp1, rfl, rfl, m, HB, HL, A2, c2, rfl, Hown, ho, Hf2⟩ := hrel
        have hml := HB.out.len
        have hap := HB.out.le
        by_cases hlt : p < 64
        · have hc := (b1.only ho (by simp)).cell p
          rw [arr_get hlt] at hc
          have hc1 := b1.cell p
          rw [arr_get hlt] at hc1
          have fc : ∀ w', Cls w1 w' → w'.cell? ⟨g1, p, none⟩ = some (.int .i64 (x p)) := fun w' h => h.cell hc1
          have hdp : decide ((p : Int) < 64) = true := decide_eq_true (by omega)
          clear hc1
          go_wp2_with fail
          refine (level_any _ _).mono ?_
          rintro e w2 ⟨rfl, rfl⟩
          cases hl : lvl (x p) with
          | false =>
            have He := Lib.hid (pErr_rng (x := x) HF.out (by rw [Htn.out]; exact rgB_false hlt hp0 hl))
            clear hl fc
            go_wp2_with fail
            go_ret2
            exact CodeX.of He.out rfl Reads.none_ (o1.then ho)
          | true =>
            have HL' := Lib.hid (show ∀ j, j < p + 1 → f0 ≤ j → lvl (x j) = true from fun j h1 h2 => by
              by_cases h : j = p
              · subst h; exact hl
              · exact HL.out j (by omega) h2)
            have hlv := lvl_true hl
            clear hl
            by_cases hz : x p = 0
            · have HB' := Lib.hid (HB.out.skip hlt hz)
              rw [hz] at hc
              clear hz hlv fc
              go_wp2_with fail
              go_roundw
              case rel => exact ⟨p + 1, a, by omega, by omega, by go_num, rfl, m, HB', HL', A2, c2, rfl, Hown, ho, Hf2⟩
              case measure => simp [intOf]; omega
            · have hzd : (x p != 0) = true := by simpa using hz
              have HB' := Lib.hid (HB.out.put hlt hz)
              have hul := uCode_le ((p : Int) - a + 1)
              have hsl := sCode_le (x p)
              have hv0 : 0 ≤ (p : Int) - a + 1 ∧ (p : Int) - a + 1 ≤ 65534 := by omega
              clear hz
              go_wp2_with fail
              clear hc hzd
              refine rgnM (Cls w1) [(0, true), (1, true), (2, true), (3, true), (4, true), (7, true), (8, true), (9, true), (5, false), (6, false), (10, false), (11, false), (12, true)] (by kernel_rfl) (by kernel_rfl) ho.drew ?_
              simp only [pickL, nth]
              iterate 5 (first | (refine mU rfl ?_; simp only [Act.put, List.setIfInBounds_toArray, List.set_cons_zero, List.set_cons_succ]) | (refine mW ?_ rfl rfl (fun w hC K hK => ?_) rfl ?_; rotate_left; (focus ((go_wp2_with fail) <;> exact hK)); simp only [Act.put, List.setIfInBounds_toArray, List.set_cons_zero, List.set_cons_succ]))
              iterate 3 (first | (refine mU rfl ?_; simp only [Act.put, List.setIfInBounds_toArray, List.set_cons_zero, List.set_cons_succ]) | (refine mW ?_ rfl rfl (fun w hC K hK => ?_) rfl ?_; rotate_left; (focus ((go_wp2_with fail) <;> exact hK)); simp only [Act.put, List.setIfInBounds_toArray, List.set_cons_zero, List.set_cons_succ]))
              refine mC (coded_u _ hv0) rfl (fun w => ?_) ?_
              · go_simp; try rfl
              rintro e w3 ⟨A3, c3, rfl, own3, o3⟩
              refine ⟨_, rfl, (ho.drew.then o3), ?_⟩
              simp only [Act.put, List.setIfInBounds_toArray, List.set_cons_zero, List.set_cons_succ]
              have hS3 : Only [] w1 w3 := ho.drew.then o3
              have own2 := own_only Hown.out ((Only.refl [] _).drew.then o3) (fun _ _ => List.not_mem_nil)
              refine mX ?_
              refine wpList_app _ rfl _ _ 29 rfl 5 i0 (.int .u8 0) 1 1 Try.underlying29 hi0 hz0 hz1 hz2 rfl (by decide) A2 m.length c2 (bytesV (flat m)) rfl own2 A3 _ _ (bytesV (flat (uCode ((p : Int) - a + 1)))) rfl (Reads.of_own own3) (bytesV_one _) ?c3 ?c4 ?_
              case c3 => unfold maxLen; omega
              case c4 => omega
              intro A4 c4 w4 own4 o4 f4

              have hS4 : Only [] w1 w4 := hS3.trans o4 Hf2.out
              have hf4 : Fresh w1 [] (rowFp (.slice A4 (m.length + (uCode ((p : Int) - a + 1)).length) c4)) := Fresh.trans Hf2.out hS3.size f4
              refine mS hS4 ?_
              simp only [Act.put, List.setIfInBounds_toArray, List.set_cons_zero, List.set_cons_succ]
              refine mC (coded_s _ hlv) rfl (fun w => ?_) ?_
              · go_simp; try rfl
              rintro e w5 ⟨A5, c5, rfl, own5, o5⟩
              refine ⟨_, rfl, (hS4.then o5), ?_⟩
              simp only [Act.put, List.setIfInBounds_toArray, List.set_cons_zero, List.set_cons_succ]
              have hS5 : Only [] w1 w5 := hS4.then o5
              have own4' := own_only own4 o5 (fun _ _ => List.not_mem_nil)
              refine mX ?_
              refine wpList_app _ rfl _ _ 29 rfl 5 i0 (.int .u8 0) 1 1 Try.underlying29 hi0 hz0 hz1 hz2 rfl (by decide) A4 (m.length + (uCode ((p : Int) - a + 1)).length) c4 (bytesV (flat m) ++ bytesV (flat (uCode ((p : Int) - a + 1)))) rfl own4' A5 _ _ (bytesV (flat (sCode (x p)))) rfl (Reads.of_own own5) (bytesV_one _) ?c3 ?c4 ?_
              case c3 => unfold maxLen; omega
              case c4 => omega
              intro A6 c6 w6 own6 o6 f6
              have hS6 : Only [] w1 w6 := hS5.trans o6 hf4
              have hf6 : Fresh w1 [] (rowFp (.slice A6 (m.length + (uCode ((p : Int) - a + 1)).length + (sCode (x p)).length) c6)) := Fresh.trans hf4 hS5.size f6
              refine mS hS6 ?_
              simp only [Act.put, List.setIfInBounds_toArray, List.set_cons_zero, List.set_cons_succ]
              repeat (first | (refine mU rfl ?_; simp only [Act.put, List.setIfInBounds_toArray, List.set_cons_zero, List.set_cons_succ]) | (refine mW ?_ rfl rfl (fun w hC K hK => ?_) rfl ?_; rotate_left; (focus ((go_wp2_with fail) <;> exact hK)); simp only [Act.put, List.setIfInBounds_toArray, List.set_cons_zero, List.set_cons_succ]))
              refine mN ?_
              clear own2 own3 own4 own4' own5 o3 o4 o5 o6 hS3 hS4 hS5 hf4 f4 f6 Hown Hf2 fc
              go_wp2_with fail
              go_roundw
              case rel => exact ⟨p + 1, p + 1, by omega, by omega, by go_num, by go_num, _, HB', HL', A6, c6, by rw [List.length_append, List.length_append], (by rw [List.length_append, List.length_append, flat_append, flat_append, bytesV_append, bytesV_append]; exact own6), hS6, (by rw [List.length_append, List.length_append]; exact hf6)⟩
              case measure => simp [intOf]; omega
        · have hp64 : p = 64 := by omega
          subst hp64
          have HD := Lib.hid HB.out.done
          have He := Lib.hid (pErr_ok (x := x) HF.out (by rw [Htn.out]; exact rgB_true.2 fun j h1 h2 => lvl_true (HL.out j h1 h2)))
          rw [Htn.out, HD.out] at He
          have hu0 := uCode_le 0
          go_wp2_with fail
          refine (coded_u _ (v := 0) (by omega)).mono ?_
          rintro e w3 ⟨A3, c3, rfl, own3, o3⟩
          have own2 := own_only Hown.out o3 (fun _ _ => List.not_mem_nil)
          go_wp2_with (at_builtin; refine wpList_app _ rfl _ _ 29 rfl 5 i0 (.int .u8 0) 1 1 Try.underlying29 hi0 hz0 hz1 hz2 rfl (by decide) A2 m.length c2 (bytesV (flat m)) rfl own2 A3 _ _ (bytesV (flat (uCode 0))) rfl (Reads.of_own own3) (bytesV_one _) ?c3 ?c4 ?_)
          case c3 => unfold maxLen; omega
          case c4 => omega
          intro A4 c4 w4 own4 o4 f4
          have hS4 : Only [] w1 w4 := (ho.then o3).trans o4 Hf2.out
          go_wp2_with fail
          go_ret2
          exact CodeX.of He.out (by rw [List.length_append]) (by rw [flat_append, bytesV_append]; exact Reads.of_own own4) (o1.then hS4)
  · have He := Lib.hid (pErr_bad (x := x) hf)
    have hd1 : (f != 0) = true := by simp; omega
    have hd2 : (f != 1) = true := by simp; omega
    clear hf
    have tok : True := trivial
    go_wp2_with (clear tok; refine bx64 (x := x) rfl rfl rfl ?_; rintro g1 w1 b1 o1 l1)
    go_ret2
    exact CodeX.of He.out rfl Reads.none_ o1
end Go.Proofs.Ytkojnmphgdlmdaa
