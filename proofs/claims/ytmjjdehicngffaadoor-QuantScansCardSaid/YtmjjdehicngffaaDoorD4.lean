/- Scan; the walk of QuantScans over the contract of its sort. -/
import Derived.Test.YtmjjdehicngffaaDoorD3
namespace Go.Proofs.YtmjjdehicngffaaDoor
open Go.RowKit

/-- What is known of the two package variables. -/
def Laid (w : World) : Prop := (∃ t, Blk w 0 t (arr .i64 64 (scV true))) ∧ ∃ t, Blk w 1 t (arr .u8 64 intraV)
theorem Laid.then {w w' : World} (h : Laid w) (o : Only [] w w') : Laid w' := by
  obtain ⟨⟨t, h1⟩, u, h2⟩ := h
  exact ⟨⟨t, h1.only o (by simp)⟩, u, h2.only o (by simp)⟩
theorem scan_of (hS : SortC) (w : World) (h : Laid w) (al : Bool) : ScanC w al := by
  intro w' o
  obtain ⟨⟨t, hb⟩, _⟩ := h.then o
  cases al with
  | true =>
    go_enter Tryd.func6, Tryd.ntmps6
    go_wp2_with (first | (refine al64 rfl rfl ?_; rintro g0 w1 b1 o1 l1) | (refine wpList_load_row rfl 23 _ rfl 0 rfl t _ (0, 0) _ (hb.only o1 (by simp)) Tryd.underlying23 rfl (info_of_arr _) ?_) | (refine sr64 b1 rfl rfl rfl rfl ?_; rintro w2 b2 o2 e2))
    exact bodyPost_ret (res64 rfl b2 rfl) rfl ⟨rfl, o1.own o2 l1⟩
  | false =>
    go_enter Tryd.func6, Tryd.ntmps6
    go_wp2_with (refine al64 rfl rfl ?_; rintro g0 w1 b1 o1 l1)
    refine (zigzag_of hS _).mono ?_
    rintro e w2 ⟨rfl, o2⟩
    have b12 := b1.only o2 (by simp)
    go_wp2_with (refine sr64 b12 rfl rfl rfl rfl ?_; rintro w3 b3 o3 e3)
    exact bodyPost_ret (res64 rfl b3 rfl) rfl ⟨rfl, (o1.then o2).own o3 l1⟩
theorem eql64_of {x y : Nat → Int} (h : ∀ j, j < 64 → x j = y j) (w : World) : (binOp .eql 23 (.agg (arr .i64 64 x)) (.agg (arr .i64 64 y))).run Tryd.prog w = .ok (.bool true) w := by
  have := eql64 x y w
  rwa [eqTo_of h] at this
theorem neq64_of {x y : Nat → Int} (h : ∀ j, j < 64 → x j = y j) (w : World) : (binOp .neq 23 (.agg (arr .i64 64 x)) (.agg (arr .i64 64 y))).run Tryd.prog w = .ok (.bool false) w := by
  have h1 := eql64_of h w
  simp [binOp] at h1 ⊢
  generalize Sem.run Tryd.prog (Op.equal 23 (Value.agg (arr IntKind.i64 64 x)) (Value.agg (arr IntKind.i64 64 y))) w = r at h1 ⊢
  cases r with
  | ok a w' =>
    simp only [Result.andThen_ok, Result.ok.injEq, Value.bool.injEq] at h1 ⊢
    obtain ⟨rfl, rfl⟩ := h1
    exact ⟨rfl, rfl⟩
  | halt h w' => cases h1
theorem eql8_of (x : Nat → Int) (w : World) : (binOp .eql 28 (.agg (arr .u8 64 x)) (.agg (arr .u8 64 x))).run Tryd.prog w = .ok (.bool true) w := by
  have h : (Tryd.prog.info? 5).isSome = true := by kernel_rfl
  obtain ⟨i, hi⟩ := Option.isSome_iff_exists.1 h
  have := run_eql_arr w 28 5 .u8 64 i x x Tryd.underlying28 Tryd.underlying5 hi (by kernel_rfl)
  rwa [eqTo_of (fun _ _ => rfl)] at this
set_option maxRecDepth 100000 in
set_option maxHeartbeats 4000000 in
theorem scans_of (hS : SortC) (w : World) (hL : Laid w) (A : Option Addr) (c : Nat) (l : List Int) (hr : Reads w A 1 l.length (l.map (Value.int .i64))) (hm : l.length ≤ maxLen) :
    Calls Tryd.prog 3 #[.slice A l.length c] w fun e w' => e = .returned (.bool true) ∧ Only [] w w' := by
  have HSC := Lib.hid (show ∀ w', Only [] w w' → ∀ al, ScanC w' al from fun w' o al => scan_of hS w' (hL.then o) al)
  have HL := Lib.hid hL
  generalize hx : blockOf l = x
  have HX := Lib.hid hx
  clear hx hL
  go_enter Tryd.func3, Tryd.ntmps3
  go_wp2_with fail
  refine (block_any _ A c l hr hm).mono ?_
  rintro e w1 ⟨rfl, o1⟩
  rw [HX.out]
  go_wp2_with (first | (refine al64 rfl rfl ?_; rintro g3 w2 b2 o2 l2) | (refine sr64 b2 rfl rfl rfl rfl ?_; rintro w3 b3 o3 e3))
  have ho3 := (o1.then o2).own o3 (by have := o1.size; omega)
  have HB3 := Lib.hid b3
  have HO3 := Lib.hid ho3
  clear o1 o2 o3 b2 b3 ho3 e3
  go_loopw [4] (fun i wr => ∃ k : Nat, k ≤ 2 ∧ i = .int .i64 (k : Int) ∧ Hid (Only [] w wr) ∧ Hid (Blk wr g3 23 (arr .i64 64 x))) (fun i _ => 2 - (intOf i).toNat)
  case atStart => exact ⟨0, by omega, rfl, HO3, HB3⟩
  case round =>
    obtain ⟨k, hk, rfl, HO, HB⟩ := hrel
    by_cases hkl : k < 2
    · have hki : (k : Int) < 2 := by omega
      obtain ⟨al, hal⟩ : ∃ al, al = ((k : Int) == 1) := ⟨_, rfl⟩
      have hal' : ((k : Int) == 1) = al := hal.symm
      have hb := HB.out
      clear hal
      go_wp2_with (refine ld64 hb rfl rfl rfl ?_)
      refine (toScan_of _ x al (HSC.out _ HO.out al)).mono ?_
      rintro e w4 ⟨rfl, o4⟩
      go_wp2_with (first | (refine al64 rfl rfl ?_; rintro g6 w5 b5 o5 l5) | (refine sr64 b5 rfl rfl rfl rfl ?_; rintro w6 b6 o6 e6))
      have h3lt := hb.lt
      have hz4 := o4.size
      have b3 := ((hb.only o4 (by simp)).only o5 (by simp)).only o6 (by simp; omega)
      have HO6 := Lib.hid (((HO.out.then o4).then o5).own o6 (by have := HO.out.size; omega))
      have neqS := neq64_of (x := scV al) (y := scV al) (fun _ _ => rfl)
      have neqT := neq64_of (x := toS x al) (y := toS x al) (fun _ _ => rfl)
      have neqB := neq64_of (x := frS (toS x al) al) (y := x) (fun j hj => fr_to x al hj)
      have neqF := neq64_of (x := frS x al) (y := frS x al) (fun _ _ => rfl)
      clear o4 o5 o6 b5 hb e6 hal' HB HO
      refine rgn (Cls w6) (by kernel_rfl) (by kernel_rfl) Cls.refl ?_
      refine qW (.bool al) rfl rfl (fun w hC K hK => ?_) ?_
      · (go_wp2_with fail) <;> (first | exact hC | exact hK _ hC)
      simp only [Act.put, List.setIfInBounds_toArray, List.set_cons_zero, List.set_cons_succ]
      refine qC (fun w hC => Calls.cls hC (HSC.out w (HO6.out.then hC.only) al w (Only.refl _ _))) rfl (fun w => ?_) ?_
      · go_simp; try rfl
      simp only [Act.put, List.setIfInBounds_toArray, List.set_cons_zero, List.set_cons_succ]
      refine qW (.bool al) rfl rfl (fun w hC K hK => ?_) ?_
      · (go_wp2_with fail) <;> (first | exact hC | exact hK _ hC)
      simp only [Act.put, List.setIfInBounds_toArray, List.set_cons_zero, List.set_cons_succ]
      refine qC (fun w hC => Calls.cls hC (refScan_any w al)) rfl (fun w => ?_) ?_
      · go_simp; try rfl
      simp only [Act.put, List.setIfInBounds_toArray, List.set_cons_zero, List.set_cons_succ]
      refine qW (.bool false) rfl rfl (fun w hC K hK => ?_) ?_
      · have q1 := neqS w; (go_wp2_with fail) <;> (first | exact hC | exact hK _ hC)
      simp only [Act.put, List.setIfInBounds_toArray, List.set_cons_zero, List.set_cons_succ]
      refine qW (.bool false) rfl rfl (fun w hC K hK => ?_) ?_
      · (go_wp2_with fail) <;> (first | exact hC | exact hK _ hC)
      simp only [Act.put, List.setIfInBounds_toArray, List.set_cons_zero, List.set_cons_succ]
      refine qR _ rfl rfl rfl (fun w hC => hC.blk b6) Tryd.underlying23 rfl (info_of_arr _) ?_
      simp only [Act.put, List.setIfInBounds_toArray, List.set_cons_zero, List.set_cons_succ]
      refine qR _ rfl rfl rfl (fun w hC => hC.blk b3) Tryd.underlying23 rfl (info_of_arr _) ?_
      simp only [Act.put, List.setIfInBounds_toArray, List.set_cons_zero, List.set_cons_succ]
      refine qW (.bool al) rfl rfl (fun w hC K hK => ?_) ?_
      · (go_wp2_with fail) <;> (first | exact hC | exact hK _ hC)
      simp only [Act.put, List.setIfInBounds_toArray, List.set_cons_zero, List.set_cons_succ]
      refine qC (fun w hC => Calls.cls hC (refToScan_any w x al)) rfl (fun w => ?_) ?_
      · go_simp; try rfl
      simp only [Act.put, List.setIfInBounds_toArray, List.set_cons_zero, List.set_cons_succ]
      refine qW (.bool false) rfl rfl (fun w hC K hK => ?_) ?_
      · have q1 := neqT w; (go_wp2_with fail) <;> (first | exact hC | exact hK _ hC)
      simp only [Act.put, List.setIfInBounds_toArray, List.set_cons_zero, List.set_cons_succ]
      refine qW (.bool false) rfl rfl (fun w hC K hK => ?_) ?_
      · (go_wp2_with fail) <;> (first | exact hC | exact hK _ hC)
      simp only [Act.put, List.setIfInBounds_toArray, List.set_cons_zero, List.set_cons_succ]
      refine qW (.bool false) rfl rfl (fun w hC K hK => ?_) ?_
      · (go_wp2_with fail) <;> (first | exact hC | exact hK _ hC)
      simp only [Act.put, List.setIfInBounds_toArray, List.set_cons_zero, List.set_cons_succ]
      refine qR _ rfl rfl rfl (fun w hC => hC.blk b6) Tryd.underlying23 rfl (info_of_arr _) ?_
      simp only [Act.put, List.setIfInBounds_toArray, List.set_cons_zero, List.set_cons_succ]
      refine qW (.bool al) rfl rfl (fun w hC K hK => ?_) ?_
      · (go_wp2_with fail) <;> (first | exact hC | exact hK _ hC)
      simp only [Act.put, List.setIfInBounds_toArray, List.set_cons_zero, List.set_cons_succ]
      refine qC (fun w hC => Calls.cls hC (fromScan_of w (toS x al) al (HSC.out w (HO6.out.then hC.only) al))) rfl (fun w => ?_) ?_
      · go_simp; try rfl
      simp only [Act.put, List.setIfInBounds_toArray, List.set_cons_zero, List.set_cons_succ]
      refine qR _ rfl rfl rfl (fun w hC => hC.blk b3) Tryd.underlying23 rfl (info_of_arr _) ?_
      simp only [Act.put, List.setIfInBounds_toArray, List.set_cons_zero, List.set_cons_succ]
      refine qW (.bool false) rfl rfl (fun w hC K hK => ?_) ?_
      · have q1 := neqB w; (go_wp2_with fail) <;> (first | exact hC | exact hK _ hC)
      simp only [Act.put, List.setIfInBounds_toArray, List.set_cons_zero, List.set_cons_succ]
      refine qW (.bool false) rfl rfl (fun w hC K hK => ?_) ?_
      · (go_wp2_with fail) <;> (first | exact hC | exact hK _ hC)
      simp only [Act.put, List.setIfInBounds_toArray, List.set_cons_zero, List.set_cons_succ]
      refine qW (.bool false) rfl rfl (fun w hC K hK => ?_) ?_
      · (go_wp2_with fail) <;> (first | exact hC | exact hK _ hC)
      simp only [Act.put, List.setIfInBounds_toArray, List.set_cons_zero, List.set_cons_succ]
      refine qR _ rfl rfl rfl (fun w hC => hC.blk b3) Tryd.underlying23 rfl (info_of_arr _) ?_
      simp only [Act.put, List.setIfInBounds_toArray, List.set_cons_zero, List.set_cons_succ]
      refine qW (.bool al) rfl rfl (fun w hC K hK => ?_) ?_
      · (go_wp2_with fail) <;> (first | exact hC | exact hK _ hC)
      simp only [Act.put, List.setIfInBounds_toArray, List.set_cons_zero, List.set_cons_succ]
      refine qC (fun w hC => Calls.cls hC (fromScan_of w x al (HSC.out w (HO6.out.then hC.only) al))) rfl (fun w => ?_) ?_
      · go_simp; try rfl
      simp only [Act.put, List.setIfInBounds_toArray, List.set_cons_zero, List.set_cons_succ]
      refine qR _ rfl rfl rfl (fun w hC => hC.blk b3) Tryd.underlying23 rfl (info_of_arr _) ?_
      simp only [Act.put, List.setIfInBounds_toArray, List.set_cons_zero, List.set_cons_succ]
      refine qW (.bool al) rfl rfl (fun w hC K hK => ?_) ?_
      · (go_wp2_with fail) <;> (first | exact hC | exact hK _ hC)
      simp only [Act.put, List.setIfInBounds_toArray, List.set_cons_zero, List.set_cons_succ]
      refine qC (fun w hC => Calls.cls hC (refFromScan_any w x al)) rfl (fun w => ?_) ?_
      · go_simp; try rfl
      simp only [Act.put, List.setIfInBounds_toArray, List.set_cons_zero, List.set_cons_succ]
      refine qW (.bool false) rfl rfl (fun w hC K hK => ?_) ?_
      · have q1 := neqF w; (go_wp2_with fail) <;> (first | exact hC | exact hK _ hC)
      simp only [Act.put, List.setIfInBounds_toArray, List.set_cons_zero, List.set_cons_succ]
      refine qW (.bool false) rfl rfl (fun w hC K hK => ?_) ?_
      · (go_wp2_with fail) <;> (first | exact hC | exact hK _ hC)
      simp only [Act.put, List.setIfInBounds_toArray, List.set_cons_zero, List.set_cons_succ]
      refine qN ?_
      intro w7 hw7

      have HB7 := Lib.hid (b3.only hw7.only (by simp))
      have HO7 := Lib.hid (HO6.out.then hw7.only)
      clear neqS neqT neqB neqF b3 b6 hw7
      go_wp2_with fail
      go_roundw
      case rel => exact ⟨k + 1, by omega, by go_num, HO7, HB7⟩
      case measure => simp [intOf]; omega
    · obtain rfl : k = 2 := by omega
      go_wp2_with fail
      refine (awake_any _).mono ?_
      rintro e w4 ⟨rfl, o4⟩
      have ho4 := HO.out.then o4
      go_wp2_with fail
      refine (intra_any _ (HL.out.then ho4).2).mono ?_
      rintro e w5 ⟨rfl, o5⟩
      go_wp2_with fail
      refine (refIntra_any _).mono ?_
      rintro e w6 ⟨rfl, o6⟩
      have q8 := fun w => eql8_of intraV w
      go_wp2_with fail
      clear q8
      refine (default_any _).mono ?_
      rintro e w7 ⟨rfl, o7⟩
      go_wp2_with fail
      refine (refDefault_any _).mono ?_
      rintro e w8 ⟨rfl, o8⟩
      have q8 := fun w => eql8_of flat w
      have HO8 := Lib.hid ((((ho4.then o5).then o6).then o7).then o8)
      clear o4 o5 o6 o7 o8 ho4
      go_wp2_with fail
      go_ret
      exact ⟨rfl, HO8.out⟩
end Go.Proofs.YtmjjdehicngffaaDoor
