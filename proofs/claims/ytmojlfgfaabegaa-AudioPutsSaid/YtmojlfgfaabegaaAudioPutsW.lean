/- Proved: AudioPuts returns true for all its arguments, which read afterwards as before. No condition. -/
import Derived.Test.YtmojlfgfaabegaaA14
import Derived.Test.YtmojlfgfaabegaaOp
namespace Go.Proofs.Ytmojlfgfaabegaa.audioPuts
open Go.ChangeShapes Go.WideShapes Go.ChangeAt Go.RowKit bt

set_option maxRecDepth 100000 in
set_option maxHeartbeats 4000000 in
theorem walk (w : World) (A : Option Addr) (c : Nat) (hs : List (Option Addr × Nat)) (ls : List (List Int)) (h : PcmIs w A hs ls) (hm : ls.length ≤ maxLen) (hb : ∀ l ∈ ls, l.length ≤ maxLen ∧ ∀ z ∈ l, -32768 ≤ z ∧ z ≤ 32767) :
    Calls Try.prog 5 #[.slice A ls.length c] w fun e w' => e = .returned (.bool true) ∧ Only [] w w' := by
  unfold maxLen at hm hb
  have HP := Lib.hid h
  have HB := Lib.hid hb
  clear h hb
  go_enter Try.func5, Try.ntmps5
  go_wp2_with fail
  refine (light_any _ A c hs ls HP.out 100 100 rfl (by omega) (fun l hl => (HB.out l hl).1)).mono ?_
  rintro e w1 ⟨rfl, rfl⟩
  cases hlit : lit ls 100 with
  | false =>
    clear hlit
    go_wp2_with fail
    go_ret
    exact ⟨rfl, Only.refl _ _⟩
  | true =>
  obtain ⟨hl6, hl100⟩ := lit_true.1 hlit
  have HLM := Lib.hid (show ∀ l ∈ ls, l.length ≤ 1099511627776 ∧ ∀ z ∈ l, -32768 ≤ z ∧ z ≤ 32767 from fun l hl => ⟨by have := hl100 l hl; omega, (HB.out l hl).2⟩)
  have HL100 := Lib.hid hl100
  clear hlit hl100
  go_wp2_with fail
  refine (putBlock_any _ A c hs ls HP.out (by omega) HLM.out).mono ?_
  rintro e w1 ⟨A1, c1, rfl, r1, o1, _⟩
  have HR1 := Lib.hid r1
  have HO1 := Lib.hid o1
  clear r1 o1
  go_wp2_with fail
  refine (refPutBlock_any _ A c hs ls (HP.out.then HO1.out) (by omega) HLM.out).mono ?_
  rintro e w2 ⟨A2, c2, rfl, r2, o2, _⟩
  have HR2 := Lib.hid r2
  have HR1' := Lib.hid (HR1.out.then o2)
  have HO2 := Lib.hid (HO1.out.then o2)
  have HLT := Lib.hid (PB_lt ls (by omega))
  clear r2 o2 HR1 HO1
  generalize (PB ls).1 = p at HR2 HR1' HLT ⊢
  generalize (PB ls).2 = r
  go_wp2_with fail
  refine (same_any _ A1 A2 p.length p.length c1 c2 p p HR1'.out HR2.out HLT.out HLT.out).mono ?_
  rintro e w3 ⟨rfl, rfl⟩
  rw [decide_eq_true rfl]
  go_wp2_with fail
  go_loopw [7] (fun i wr => ∃ k : Nat, k ≤ ls.length ∧ i = .int .i64 (k : Int) ∧ Hid (Only [] w wr)) (fun i _ => ls.length - (intOf i).toNat)
  case atStart => exact ⟨0, Nat.zero_le _, rfl, HO2⟩
  case round =>
    obtain ⟨k, hk, rfl, HO⟩ := hrel
    by_cases hlt : k < ls.length
    · obtain ⟨l, hl⟩ : ∃ l, ls[k]? = some l := ⟨_, List.getElem?_eq_getElem hlt⟩
      obtain ⟨b, off, B, cB, rfl, cl, rl, _⟩ := (HP.out.then HO.out).at_ hl
      have hki : (k : Int) < (ls.length : Int) := by omega
      have HLX := Lib.hid ((HB.out l (List.mem_of_getElem? hl)).2)
      have hl1 := HL100.out l (List.mem_of_getElem? hl)
      have RL := Lib.hid rl
      have fc0 : ∀ w', Cls wr w' → w'.cell? ⟨b, off + k, none⟩ = some (.slice B l.length cB) := fun w' h => h.cell cl
      clear hl rl cl
      go_wp2_with fail
      refine rgn (Cls wr) (by kernel_rfl) (by kernel_rfl) Cls.refl ?_
      refine qW (.slice (some ⟨b, off, none⟩) ls.length c) rfl rfl (fun w hC K hK => ?_) ?_
      · have fc := fc0 w hC; (go_wp2_with fail) <;> (first | exact hC | exact hK _ hC)
      simp only [Act.put, List.setIfInBounds_toArray, List.set_cons_zero, List.set_cons_succ]
      refine qW (.int .i64 (k : Int)) rfl rfl (fun w hC K hK => ?_) ?_
      · have fc := fc0 w hC; (go_wp2_with fail) <;> (first | exact hC | exact hK _ hC)
      simp only [Act.put, List.setIfInBounds_toArray, List.set_cons_zero, List.set_cons_succ]
      refine qW (.pointer (some ⟨b, off + k, none⟩)) rfl rfl (fun w hC K hK => ?_) ?_
      · have fc := fc0 w hC; (go_wp2_with fail) <;> (first | exact hC | exact hK _ hC)
      simp only [Act.put, List.setIfInBounds_toArray, List.set_cons_zero, List.set_cons_succ]
      refine qW (.slice B l.length cB) rfl rfl (fun w hC K hK => ?_) ?_
      · have fc := fc0 w hC; (go_wp2_with fail) <;> (first | exact hC | exact hK _ hC)
      simp only [Act.put, List.setIfInBounds_toArray, List.set_cons_zero, List.set_cons_succ]
      refine qC (fun w hC => Calls.cls_same hC (error_any w B cB l (hC.reads RL.out) HLX.out (by omega))) rfl (fun w => ?_) ?_
      · go_simp; try rfl
      simp only [Act.put, List.setIfInBounds_toArray, List.set_cons_zero, List.set_cons_succ]
      refine qW (.slice (some ⟨b, off, none⟩) ls.length c) rfl rfl (fun w hC K hK => ?_) ?_
      · have fc := fc0 w hC; (go_wp2_with fail) <;> (first | exact hC | exact hK _ hC)
      simp only [Act.put, List.setIfInBounds_toArray, List.set_cons_zero, List.set_cons_succ]
      refine qW (.int .i64 (k : Int)) rfl rfl (fun w hC K hK => ?_) ?_
      · have fc := fc0 w hC; (go_wp2_with fail) <;> (first | exact hC | exact hK _ hC)
      simp only [Act.put, List.setIfInBounds_toArray, List.set_cons_zero, List.set_cons_succ]
      refine qW (.pointer (some ⟨b, off + k, none⟩)) rfl rfl (fun w hC K hK => ?_) ?_
      · have fc := fc0 w hC; (go_wp2_with fail) <;> (first | exact hC | exact hK _ hC)
      simp only [Act.put, List.setIfInBounds_toArray, List.set_cons_zero, List.set_cons_succ]
      refine qW (.slice B l.length cB) rfl rfl (fun w hC K hK => ?_) ?_
      · have fc := fc0 w hC; (go_wp2_with fail) <;> (first | exact hC | exact hK _ hC)
      simp only [Act.put, List.setIfInBounds_toArray, List.set_cons_zero, List.set_cons_succ]
      refine qC (fun w hC => Calls.cls_same hC (refError_any w B cB l (hC.reads RL.out) HLX.out (by omega))) rfl (fun w => ?_) ?_
      · go_simp; try rfl
      simp only [Act.put, List.setIfInBounds_toArray, List.set_cons_zero, List.set_cons_succ]
      refine qW (.bool false) rfl rfl (fun w hC K hK => ?_) ?_
      · have fc := fc0 w hC; (go_wp2_with fail) <;> (first | exact hC | exact hK _ hC)
      simp only [Act.put, List.setIfInBounds_toArray, List.set_cons_zero, List.set_cons_succ]
      refine qN ?_
      intro w6 hw6
      have HO6 := Lib.hid (HO.out.then hw6)
      clear fc0 hw6
      go_wp2_with fail
      go_roundw
      case rel => exact ⟨k + 1, by omega, by go_num, HO6⟩
      case measure => simp [intOf]; omega
    · have hke : k = ls.length := by omega
      subst hke
      go_wp2_with fail
      refine (awake_any _).mono ?_
      rintro e w4 ⟨rfl, o4⟩
      have HO4 := Lib.hid (HO.out.then o4)
      clear o4
      go_wp2_with fail
      go_ret
      exact ⟨rfl, HO4.out⟩
end Go.Proofs.Ytmojlfgfaabegaa.audioPuts
