/- Contracts of Put, Bits and the reference's Code. -/
import Derived.Test.YtkojnmphgdlmdaaB1
namespace Go.Proofs.Ytkojnmphgdlmdaa
open Go.RowKit bt

theorem writer_lt {w : World} {g : Nat} {F : List Nat} {l : List Bool} (h : WriterIs w g F l) : ∀ k ∈ F, k < w.heap.size := by
  obtain ⟨A, c, hb, hown, rfl⟩ := h
  intro k hk
  rcases List.mem_cons.1 hk with rfl | hk
  · exact hb.lt
  · exact own_lt hown k hk
theorem writer_keep {w w' : World} {g : Nat} {F : List Nat} {l : List Bool} (h : WriterIs w g F l) (ho : Only [] w w') : WriterIs w' g F l := by
  obtain ⟨A, c, hb, hown, rfl⟩ := h
  exact ⟨A, c, hb.only ho (by simp), own_only hown ho (fun _ _ => List.not_mem_nil), rfl⟩
theorem uErr_0 {v : Int} (h0 : 0 ≤ v) (h1 : v ≤ 65534) : uPutErr v = 0 := by unfold uPutErr; rw [if_neg (by omega)]
theorem sErr_0 {v : Int} (h0 : -4095 ≤ v) (h1 : v ≤ 4095) : sPutErr v = 0 := by unfold sPutErr; rw [if_neg (by omega)]
theorem putNil_any (w : World) (x : Nat → Int) (f : Int) : Calls Try.prog 9 #[.pointer none, .agg (arr .i64 64 x), .int .i64 f] w fun e w' => e = .returned (.int .i64 1) ∧ Only [] w w' := by
  go_enter Try.func9, Try.ntmps9
  have tok : True := trivial
  go_wp2_with (clear tok; refine bx64 (x := x) rfl rfl rfl ?_; rintro g1 w1 b1 o1 l1)
  go_ret
  exact ⟨rfl, o1⟩
set_option maxHeartbeats 2000000 in
set_option maxRecDepth 100000 in
theorem bput_any (w : World) (g : Nat) (F : List Nat) (l : List Bool) (x : Nat → Int) (f : Int) (h : WriterIs w g F l) (hl : l.length ≤ 900000000) :
    Calls Try.prog 9 #[.pointer (some ⟨g, 0, none⟩), .agg (arr .i64 64 x), .int .i64 f] w fun e w' => e = .returned (.int .i64 (pErr x f)) ∧ ∃ F', WriterIs w' g F' (l ++ bOut x f) ∧ Only F w w' ∧ Fresh w F F' := by
  have hFlt := writer_lt h
  have HFlt := Lib.hid hFlt
  have HW := Lib.hid h
  clear h hFlt
  go_enter Try.func9, Try.ntmps9
  have tok : True := trivial
  go_wp2_with (clear tok; refine bx64 (x := x) rfl rfl rfl ?_; rintro g1 w1 b1 o1 l1)
  refine (validStart_any _ _).mono ?_
  rintro e w1' ⟨rfl, rfl⟩
  have HW1 := Lib.hid (writer_keep HW.out o1)
  clear HW
  by_cases hf : f = 0 ∨ f = 1
  · have hv : vst f = true := by unfold vst; exact decide_eq_true hf
    obtain ⟨f0, rfl⟩ : ∃ f0 : Nat, f = (f0 : Int) := ⟨f.toNat, by omega⟩
    have hf1 : f0 ≤ 1 := by omega
    have htn : ((f0 : Int)).toNat = f0 := Int.toNat_natCast _
    have tok2 : True := trivial
    go_wp2_with (clear tok2; refine ld64 (x := x) b1 rfl rfl rfl ?_)
    clear hv
    refine (inRange_any _ x f0 hf1).mono ?_
    rintro e w2 ⟨rfl, o2⟩
    have b2 := b1.only o2 (by simp)
    have HW2 := Lib.hid (writer_keep HW1.out o2)
    have ho2 := o1.then o2
    have Hg : Hid (g1 ∉ F) := Lib.hid (fun h => by have := HFlt.out g1 h; omega)
    clear HW1 o2 b1
    cases hr : rgB x f0 with
    | false =>
      have He := Lib.hid (pErr_rng (x := x) hf (by rw [htn]; exact hr))
      clear hr hf htn
      go_wp2_with fail
      go_ret
      exact ⟨by rw [He.out.1]; rfl, F, by rw [He.out.2, List.append_nil]; exact HW2.out, ho2.mono (by simp), Fresh.refl _ _⟩
    | true =>
      have He := Lib.hid (pErr_ok (x := x) hf (by rw [htn]; exact hr))
      rw [htn] at He
      have Hx := Lib.hid (rgB_true.1 hr)
      clear hr hf htn
      go_wp2_with fail
      go_loopw [7, 8] (fun bf i wr => ∃ p a : Nat, f0 ≤ p ∧ p ≤ 64 ∧ i = .int .i64 (p : Int) ∧ bf = .int .i64 ((a : Int) - 1) ∧ ∃ m, Hid (BI x f0 p a m) ∧ ∃ F', Hid (WriterIs wr g F' (l ++ m)) ∧ Hid (g1 ∉ F') ∧ Hid (Only F w2 wr) ∧ Hid (Fresh w2 F F')) (fun _ i _ => 64 - (intOf i).toNat)
      case atStart => exact ⟨f0, f0, Nat.le_refl _, by omega, rfl, by go_num, [], BI.start _ _, F, by rw [List.append_nil]; exact HW2, Hg, Only.refl _ _, Fresh.refl _ _⟩
      case round =>
        obtain ⟨p, a, hp0, hp1, rfl, rfl, m, HB, F1, HW3, Hg3, HO3, HF3⟩ := hrel
        have hml := HB.out.len
        have hap := HB.out.le
        by_cases hlt : p < 64
        · have b3 := b2.only HO3.out Hg.out
          have hc := b3.cell p
          rw [arr_get hlt] at hc
          have hlv := Hx.out p hlt hp0
          have hdp : decide ((p : Int) < 64) = true := decide_eq_true (by omega)
          by_cases hz : x p = 0
          · have HB' := Lib.hid (HB.out.skip hlt hz)
            rw [hz] at hc
            clear hz b3 hlv
            go_wp2_with fail
            go_roundw
            case rel => exact ⟨p + 1, a, by omega, by omega, by go_num, rfl, m, HB', F1, HW3, Hg3, HO3, HF3⟩
            case measure => simp [intOf]; omega
          · have hzd : (x p == 0) = false := by simpa using hz
            have HB' := Lib.hid (HB.out.put hlt hz)
            have hul := uCode_le ((p : Int) - a + 1)
            have hsl := sCode_le (x p)
            have he1 := uErr_0 (v := (p : Int) - a + 1) (by omega) (by omega)
            have he2 := sErr_0 hlv.1 hlv.2
            have hpa : (p : Int) - ((a : Int) - 1) = (p : Int) - a + 1 := by omega
            clear hz b3
            go_wp2_with fail
            refine (putU_any _ _ _ _ _ HW3.out (by omega) (by rw [List.length_append]; omega)).mono ?_
            rintro e w4 ⟨rfl, F4, hW4, ho4, hf4⟩
            have HO4 := Lib.hid (HO3.out.trans ho4 HF3.out)
            have HF4 := Lib.hid (HF3.out.trans HO3.out.size hf4)
            have hg4 : g1 ∉ F4 := fun h => by
              rcases hf4 g1 h with h | h
              · exact Hg3.out h
              · have := b2.lt; have := HO3.out.size; omega
            have Hg4 := Lib.hid hg4
            have HW4 := Lib.hid hW4
            have b4 := b2.only HO4.out Hg.out
            have hc4 := b4.cell p
            rw [arr_get hlt] at hc4
            rw [he1]
            clear hg4 hW4 ho4 hf4 b4 hc hpa
            go_wp2_with fail
            refine (putS_any _ _ _ _ _ HW4.out (by omega) (by rw [List.length_append, List.length_append]; omega)).mono ?_
            rintro e w5 ⟨rfl, F5, hW5, ho5, hf5⟩
            have HO5 := Lib.hid (HO4.out.trans ho5 HF4.out)
            have HF5 := Lib.hid (HF4.out.trans HO4.out.size hf5)
            have hg5 : g1 ∉ F5 := fun h => by
              rcases hf5 g1 h with h | h
              · exact Hg4.out h
              · have := b2.lt; have := HO4.out.size; omega
            have Hg5 := Lib.hid hg5
            have HW5 := Lib.hid hW5
            rw [he2]
            rw [List.append_assoc, List.append_assoc, ← List.append_assoc m] at HW5
            clear hg5 hW5 ho5 hf5 hc4
            go_wp2_with fail
            go_roundw
            case rel => exact ⟨p + 1, p + 1, by omega, by omega, by go_num, by go_num, _, HB', F5, HW5, Hg5, HO5, HF5⟩
            case measure => simp [intOf]; omega
        · have hp64 : p = 64 := by omega
          subst hp64
          have HD := Lib.hid HB.out.done
          have he0 := uErr_0 (v := 0) (by omega) (by omega)
          go_wp2_with fail
          refine (putU_any _ _ _ _ _ HW3.out (by omega) (by rw [List.length_append]; omega)).mono ?_
          rintro e w4 ⟨rfl, F4, hW4, ho4, hf4⟩
          rw [he0]
          go_wp2_with fail
          go_ret
          refine ⟨by rw [He.out.1]; rfl, F4, ?_, ?_, ?_⟩
          · rw [He.out.2, HD.out, ← List.append_assoc]; exact hW4
          · exact (ho2.mono (by simp)).trans (HO3.out.trans ho4 HF3.out) (Fresh.refl _ _)
          · exact Fresh.trans (Fresh.refl _ _) ho2.size (HF3.out.trans HO3.out.size hf4)
  · have hv : vst f = false := by unfold vst; exact decide_eq_false hf
    have He := Lib.hid (pErr_bad (x := x) hf)
    clear hf
    go_wp2_with fail
    go_ret
    exact ⟨by rw [He.out.1]; rfl, F, by rw [He.out.2, List.append_nil]; exact HW1.out, o1.mono (by simp), Fresh.refl _ _⟩
set_option maxHeartbeats 2000000 in
set_option maxRecDepth 100000 in
theorem bbits_any (w : World) (x : Nat → Int) (f : Int) :
    Calls Try.prog 11 #[.agg (arr .i64 64 x), .int .i64 f] w fun e w' => e = .returned (.int .i64 ((bOut x f).length : Int)) ∧ Only [] w w' := by
  go_enter Try.func11, Try.ntmps11
  have tok : True := trivial
  go_wp2_with (clear tok; refine bx64 (x := x) rfl rfl rfl ?_; rintro g1 w1 b1 o1 l1)
  refine (validStart_any _ _).mono ?_
  rintro e w1' ⟨rfl, rfl⟩
  by_cases hf : f = 0 ∨ f = 1
  · have hv : vst f = true := by unfold vst; exact decide_eq_true hf
    obtain ⟨f0, rfl⟩ : ∃ f0 : Nat, f = (f0 : Int) := ⟨f.toNat, by omega⟩
    have hf1 : f0 ≤ 1 := by omega
    have htn : ((f0 : Int)).toNat = f0 := Int.toNat_natCast _
    have tok2 : True := trivial
    go_wp2_with (clear tok2; refine gld64 (x := x) b1 rfl rfl rfl ?_)
    clear hv
    refine (inRange_any _ x f0 hf1).mono ?_
    rintro e w2 ⟨rfl, o2⟩
    have b2 := b1.only o2 (by simp)
    have ho2 := o1.then o2
    clear o2 b1 o1
    cases hr : rgB x f0 with
    | false =>
      have He := Lib.hid (pErr_rng (x := x) hf (by rw [htn]; exact hr))
      clear hr hf htn
      go_wp2_with fail
      go_ret
      exact ⟨by rw [He.out.2]; rfl, ho2⟩
    | true =>
      have He := Lib.hid (pErr_ok (x := x) hf (by rw [htn]; exact hr))
      rw [htn] at He
      have Hx := Lib.hid (rgB_true.1 hr)
      clear hr hf htn
      go_wp2_with fail
      refine (vlcBits_any _ _ (by omega)).mono ?_
      rintro e w3 ⟨rfl, rfl⟩
      have hu0 := uCode_length 0
      have hu1 := uCode_le 0
      have Hu0 := Lib.hid hu0
      have hub0 : 0 ≤ uBits 0 ∧ uBits 0 ≤ 31 := by omega
      clear hu0 hu1
      go_wp2_with fail
      go_loopw [5, 6, 7] (fun s bf i wr => ∃ p a : Nat, f0 ≤ p ∧ p ≤ 64 ∧ i = .int .i64 (p : Int) ∧ bf = .int .i64 ((a : Int) - 1) ∧ ∃ m : List Bool, s = .int .i64 (uBits 0 + (m.length : Int)) ∧ Hid (BI x f0 p a m) ∧ Only [] w2 wr) (fun _ _ i _ => 64 - (intOf i).toNat)
      case atStart => exact ⟨f0, f0, Nat.le_refl _, by omega, rfl, by go_num, [], by simp, BI.start _ _, Only.refl _ _⟩
      case round =>
        obtain ⟨p, a, hp0, hp1, rfl, rfl, m, rfl, HB, ho3⟩ := hrel
        have hml := HB.out.len
        have hap := HB.out.le
        by_cases hlt : p < 64
        · have b3 := b2.only ho3 (by simp)
          have hc := b3.cell p
          rw [arr_get hlt] at hc
          have hlv := Hx.out p hlt hp0
          have hdp : decide ((p : Int) < 64) = true := decide_eq_true (by omega)
          by_cases hz : x p = 0
          · have HB' := Lib.hid (HB.out.skip hlt hz)
            rw [hz] at hc
            clear hz b3 hlv
            go_wp2_with fail
            go_roundw
            case rel => exact ⟨p + 1, a, by omega, by omega, by go_num, rfl, m, rfl, HB', ho3⟩
            case measure => simp [intOf]; omega
          · have hzd : (x p != 0) = true := by simpa using hz
            have HB' := Lib.hid (HB.out.put hlt hz)
            have hul := uCode_le ((p : Int) - a + 1)
            have hsl := sCode_le (x p)
            have hull := uCode_length ((p : Int) - a + 1)
            have hsll := sCode_length (x p)
            have Hlen := Lib.hid (show (((m ++ uCode ((p : Int) - a + 1)) ++ sCode (x p)).length : Int) = m.length + (uBits ((p : Int) - a + 1) + sBits (x p)) by rw [List.length_append, List.length_append]; omega)
            have hub : 0 ≤ uBits ((p : Int) - a + 1) ∧ uBits ((p : Int) - a + 1) ≤ 31 := by omega
            have hsb : 0 ≤ sBits (x p) ∧ sBits (x p) ≤ 31 := by omega
            have hpa : (p : Int) - ((a : Int) - 1) = (p : Int) - a + 1 := by omega
            have fc : ∀ w', Cls wr w' → w'.cell? ⟨g1, p, none⟩ = some (.int .i64 (x p)) := fun w' h => h.cell hc
            clear hz b3 hull hsll hul hsl
            go_wp2_with fail
            clear hc
            refine rgn (Cls wr) (by kernel_rfl) (by kernel_rfl) Cls.refl ?_
            iterate 4 (first | (refine qU rfl ?_; simp only [Act.put, List.setIfInBounds_toArray, List.set_cons_zero, List.set_cons_succ]) | (refine qW ?_ rfl rfl (fun w hC K hK => ?_) ?_; rotate_left; (focus ((go_wp2_with fail) <;> exact hK _ hC)); simp only [Act.put, List.setIfInBounds_toArray, List.set_cons_zero, List.set_cons_succ]))
            refine qC (fun w hC => Calls.cls_same hC (vlcBits_any w ((p : Int) - a + 1) (by omega))) rfl (fun w => ?_) ?_
            · go_simp; try rfl
            simp only [Act.put, List.setIfInBounds_toArray, List.set_cons_zero, List.set_cons_succ]
            iterate 3 (first | (refine qU rfl ?_; simp only [Act.put, List.setIfInBounds_toArray, List.set_cons_zero, List.set_cons_succ]) | (refine qW ?_ rfl rfl (fun w hC K hK => ?_) ?_; rotate_left; (focus ((go_wp2_with fail) <;> exact hK _ hC)); simp only [Act.put, List.setIfInBounds_toArray, List.set_cons_zero, List.set_cons_succ]))
            refine qC (fun w hC => Calls.cls_same hC (vlcSBits_any w (x p) (by omega))) rfl (fun w => ?_) ?_
            · go_simp; try rfl
            simp only [Act.put, List.setIfInBounds_toArray, List.set_cons_zero, List.set_cons_succ]
            repeat (first | (refine qU rfl ?_; simp only [Act.put, List.setIfInBounds_toArray, List.set_cons_zero, List.set_cons_succ]) | (refine qW ?_ rfl rfl (fun w hC K hK => ?_) ?_; rotate_left; (focus ((go_wp2_with fail) <;> exact hK _ hC)); simp only [Act.put, List.setIfInBounds_toArray, List.set_cons_zero, List.set_cons_succ]))
            refine qN ?_
            intro w' hw'
            have ho4 := ho3.then hw'.only
            go_wp2_with fail
            go_roundw
            case rel => exact ⟨p + 1, p + 1, by omega, by omega, by go_num, by go_num, _, by rw [Hlen.out]; congr 1; omega, HB', ho4⟩
            case measure => simp [intOf]; omega
        · have hp64 : p = 64 := by omega
          subst hp64
          have HD := Lib.hid HB.out.done
          have Hlen := Lib.hid (show ((bOut x (f0 : Int)).length : Int) = uBits 0 + m.length by rw [He.out.2, HD.out, List.length_append, ← Hu0.out]; omega)
          go_wp2_with fail
          go_ret
          exact ⟨by rw [Hlen.out]; rfl, ho2.then ho3⟩
  · have hv : vst f = false := by unfold vst; exact decide_eq_false hf
    have He := Lib.hid (pErr_bad (x := x) hf)
    clear hf
    go_wp2_with fail
    go_ret
    exact ⟨by rw [He.out.2]; rfl, o1⟩
end Go.Proofs.Ytkojnmphgdlmdaa
