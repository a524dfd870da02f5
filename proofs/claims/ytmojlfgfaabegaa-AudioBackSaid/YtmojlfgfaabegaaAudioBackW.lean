/- Proved: AudioBack returns true for all its arguments, which read afterwards as before. No condition. -/
import Derived.Test.YtmojlfgfaabegaaA23
import Derived.Test.YtmojlfgfaabegaaOp
namespace Go.Proofs.Ytmojlfgfaabegaa.audioBack
open Go.ChangeShapes Go.WideShapes Go.ChangeAt Go.RowKit bt

set_option maxRecDepth 100000 in
set_option maxHeartbeats 4000000 in
theorem walk (w : World) (A : Option Addr) (c : Nat) (hs : List (Option Addr × Nat)) (ls : List (List Int)) (h : PcmIs w A hs ls) (hm : ls.length ≤ maxLen) (hb : ∀ l ∈ ls, l.length ≤ maxLen ∧ ∀ z ∈ l, -32768 ≤ z ∧ z ≤ 32767) :
    Calls Try.prog 11 #[.slice A ls.length c] w fun e w' => e = .returned (.bool true) ∧ Only [] w w' := by
  unfold maxLen at hm hb
  have HP := Lib.hid h
  have HB := Lib.hid hb
  clear h hb
  go_enter Try.func11, Try.ntmps11
  go_wp2_with fail
  refine (light_any _ A c hs ls HP.out 400 400 rfl (by omega) (fun l hl => (HB.out l hl).1)).mono ?_
  rintro e w1 ⟨rfl, rfl⟩
  cases hlit : lit ls 400 with
  | false =>
    clear hlit
    go_wp2_with fail
    refine (awake_any _).mono ?_
    rintro e w1 ⟨rfl, o1⟩
    have HO1 := Lib.hid o1
    clear o1
    go_wp2_with fail
    go_ret
    exact ⟨rfl, HO1.out⟩
  | true =>
  obtain ⟨hl6, hl400⟩ := lit_true.1 hlit
  have H400 := Lib.hid hl400
  have HLM := Lib.hid (show ∀ l ∈ ls, l.length ≤ 1099511627776 ∧ ∀ z ∈ l, -32768 ≤ z ∧ z ≤ 32767 from fun l hl => ⟨by have := hl400 l hl; omega, (HB.out l hl).2⟩)
  clear hlit hl400 HB hm
  go_wp2_with fail
  refine (refProper_any _ A c hs ls HP.out (by omega) (fun l hl => (HLM.out l hl).1)).mono ?_
  rintro e w1 ⟨rfl, o1⟩
  have HO1 := Lib.hid o1
  clear o1
  cases hpr : pr ls 1048576 with
  | false =>
    clear hpr
    go_wp2_with fail
    refine (awake_any _).mono ?_
    rintro e w2 ⟨rfl, o2⟩
    have HO2 := Lib.hid (HO1.out.then o2)
    clear o2
    go_wp2_with fail
    go_ret
    exact ⟨rfl, HO2.out⟩
  | true =>
  obtain ⟨hcd, he0⟩ := Coded.of hpr (fun l hl => (HLM.out l hl).2)
  obtain ⟨hc1, hc4, _⟩ := hcd.le
  have hn400 := coded_n hcd H400.out
  have HPL := Lib.hid hcd.c_drop.2.1
  have HLT := Lib.hid (EN_lt ls)
  go_wp2_with fail
  refine (encode_any _ A c hs ls (HP.out.then HO1.out) (by omega) HLM.out).mono ?_
  rintro e w2 ⟨A1, c1, rfl, r1, o1, hcap1⟩
  rw [he0]
  have HCD := Lib.hid hcd
  clear hcd he0 hpr
  generalize hp : (EN ls).1 = p at r1 hcap1 HPL HLT HCD ⊢
  generalize hn : (ls.headD []).length = n at HPL HCD hn400 ⊢
  have HN := Lib.hid hn
  have hplen : p.length ≤ 2000 := coded_len HCD.out hn400
  have HR1 := Lib.hid r1
  have HO2 := Lib.hid (HO1.out.then o1)
  have HP2 := Lib.hid ((HP.out.then HO1.out).then o1)
  clear r1 o1 hp hn HP
  go_wp2_with fail
  refine (decode_any _ A1 c1 p HR1.out hcap1 HLT.out (by omega)).mono ?_
  rintro e w3 ⟨A2, c2, hs2, B2, d2, rfl, hp2, hr2, o2⟩
  rw [HCD.out.c_all] at hp2 hr2 ⊢
  have HP3 := Lib.hid hp2
  have HO3 := Lib.hid (HO2.out.then o2)
  have HR3 := Lib.hid (HR1.out.then o2)
  have HPO := Lib.hid (HP2.out.then o2)
  clear hp2 hr2 o2 HO2 HR1 HP2
  have hlm : (ls.map rw1).length = ls.length := List.length_map ..
  simp only [hlm, List.length_nil] at ⊢
  clear hlm
  go_wp2_with fail
  go_loopw [8] (fun i wr => ∃ k : Nat, k ≤ ls.length ∧ i = .int .i64 (k : Int) ∧ Hid (Only [] w3 wr)) (fun i _ => ls.length - (intOf i).toNat)
  case atStart => exact ⟨0, Nat.zero_le _, rfl, Lib.hid (Only.refl _ _)⟩
  case round =>
    obtain ⟨k, hk, rfl, HO⟩ := hrel
    by_cases hlt : k < ls.length
    · obtain ⟨l, hl⟩ : ∃ l, ls[k]? = some l := ⟨_, List.getElem?_eq_getElem hlt⟩
      have hln0 : l.length = n := HCD.out.c_row (List.mem_of_getElem? hl)
      have hln : (rw1 l).length = n := by rw [rw1_len]; exact hln0
      have hl' : (ls.map rw1)[k]? = some (rw1 l) := by rw [List.getElem?_map, hl]; rfl
      obtain ⟨b2, off2, Y, cY, rfl, c2, r2, _⟩ := HP3.out.at_ hl'
      obtain ⟨b, off, X, cX, rfl, c1, r1, hhx⟩ := HPO.out.at_ hl
      have hcx : l.length ≤ cX := HPO.out.cap k (X, cX) l hhx hl
      rw [hln] at c2 r2
      rw [hln0] at c1 r1 hcx
      have hki : (k : Int) < (ls.length : Int) := by omega
      have C1 := Lib.hid c1
      have C2 := Lib.hid c2
      have R1 := Lib.hid r1
      have R2 := Lib.hid r2
      have HLN := Lib.hid hln
      have HL0 := Lib.hid hln0
      have HRG := Lib.hid (show rng l from (HLM.out l (List.mem_of_getElem? hl)).2)
      clear hl hl' hhx hln hln0 c1 c2 r1 r2
      have c1 := Cls.cell (show Cls w3 wr from HO.out) C1.out
      have c2 := Cls.cell (show Cls w3 wr from HO.out) C2.out
      go_wp2_with fail
      go_region
      all_goals go_wp2_with fail
      go_loopw [9] (fun iv wr => ∃ i : Nat, i ≤ n ∧ iv = .int .i64 (i : Int) ∧ Hid (Only [] w3 wr)) (fun iv _ => n - (intOf iv).toNat)
      case atStart => exact ⟨0, Nat.zero_le _, rfl, Lib.hid HO.out.drew⟩
      case round =>
        obtain ⟨i, hi, rfl, HO5⟩ := hrel
        have c1 := Cls.cell (show Cls w3 wr from HO5.out) C1.out
        have c2 := Cls.cell (show Cls w3 wr from HO5.out) C2.out
        by_cases hil : i < n
        · have hid : (i : Int) < (n : Int) := by omega
          obtain ⟨q, hq⟩ : ∃ q, q = i / 32 := ⟨_, rfl⟩
          obtain ⟨F, hF⟩ : ∃ F, F = 32 * q := ⟨_, rfl⟩
          have hFi : (i : Int) / 32 * 32 = (F : Int) := by omega
          have hFl : F ≤ i := by omega
          obtain ⟨M, hM⟩ : ∃ M, M = min (32 * q + 32) n := ⟨_, rfl⟩
          have hFM : F ≤ M ∧ M ≤ n := by omega
          have HMI := Lib.hid (show (if (n : Int) < (F : Int) + 32 then (n : Int) else (F : Int) + 32) = (M : Int) by split <;> omega)
          have hrs := (R1.out.then HO5.out).sub (j := F) (m := M) (c := cX) hFM.1 hFM.2 hcx
          have hln0 := HL0.out
          have hcr := cut_row (l := l) (k := q) (n := n) (by omega)
          rw [← hM, ← hF] at hcr
          have hcl : M - F = (cut l q).length := by rw [cut_len]; omega
          rw [hcr, hF] at hrs
          have hct : (l.drop (32 * q)).take 32 = cut l q := rfl
          rw [hct, ← hF] at hrs
          have hnear : ∀ x y, l[i]? = some x → (rw1 l)[i]? = some y → y - x ≤ (hlfE (expo (cut l q)) : Int) ∧ -(y - x) ≤ (hlfE (expo (cut l q)) : Int) := fun x y h1 h2 => by rw [hq]; exact rw1_near i h1 h2
          have hcg : rng (cut l q) := cut_rng HRG.out q
          rw [hcl] at hrs
          have hcl32 : (cut l q).length ≤ 32 := by rw [cut_len]; omega
          generalize cut l q = ct at hrs hcl hnear hcg hcl32
          obtain ⟨A6, hA6⟩ : ∃ A6 : Option Addr, A6 = (if cX = F then X else X.map (·.add (F * 1))) := ⟨_, rfl⟩
          obtain ⟨C6, hC6⟩ : ∃ C6, C6 = cX - F := ⟨_, rfl⟩
          rw [← hA6] at hrs
          have RCT := Lib.hid hrs
          have HA6 := Lib.hid hA6.symm
          have HL6 := Lib.hid hcl
          have HC6 := Lib.hid hC6.symm
          have HCR := Lib.hid hcg
          have HNR := Lib.hid hnear
          have fc0 : ∀ w', Cls wr w' → w'.cell? ⟨b, off + k, none⟩ = some (.slice X n cX) := fun w' h => h.cell c1
          clear hrs hA6 hcl hC6 hcg hnear hct hcr hM hF hq hln0
          go_wp2_with fail
          clear hFi c1 c2
          refine rgn (Cls wr) (by kernel_rfl) (by kernel_rfl) Cls.refl ?_
          refine qW (.slice (some ⟨b, off, none⟩) ls.length c) rfl rfl (fun w hC K hK => ?_) ?_
          · have fc := fc0 w hC; (go_wp2_with fail) <;> (first | exact hC | exact hK _ hC)
          simp only [Act.put, List.setIfInBounds_toArray, List.set_cons_zero, List.set_cons_succ]
          refine qW (.int .i64 (k : Int)) rfl rfl (fun w hC K hK => ?_) ?_
          · have fc := fc0 w hC; (go_wp2_with fail) <;> (first | exact hC | exact hK _ hC)
          simp only [Act.put, List.setIfInBounds_toArray, List.set_cons_zero, List.set_cons_succ]
          refine qW (.pointer (some ⟨b, off + k, none⟩)) rfl rfl (fun w hC K hK => ?_) ?_
          · have fc := fc0 w hC; (go_wp2_with fail) <;> (first | exact hC | exact hK _ hC)
          simp only [Act.put, List.setIfInBounds_toArray, List.set_cons_zero, List.set_cons_succ]
          refine qW (.slice X n cX) rfl rfl (fun w hC K hK => ?_) ?_
          · have fc := fc0 w hC; (go_wp2_with fail) <;> (first | exact hC | exact hK _ hC)
          simp only [Act.put, List.setIfInBounds_toArray, List.set_cons_zero, List.set_cons_succ]
          refine qW (.int .i64 (F : Int)) rfl rfl (fun w hC K hK => ?_) ?_
          · have fc := fc0 w hC; (go_wp2_with fail) <;> (first | exact hC | exact hK _ hC)
          simp only [Act.put, List.setIfInBounds_toArray, List.set_cons_zero, List.set_cons_succ]
          refine qW (.int .i64 (F : Int)) rfl rfl (fun w hC K hK => ?_) ?_
          · have fc := fc0 w hC; (go_wp2_with fail) <;> (first | exact hC | exact hK _ hC)
          simp only [Act.put, List.setIfInBounds_toArray, List.set_cons_zero, List.set_cons_succ]
          refine qW (.int .i64 ((F : Int) + 32)) rfl rfl (fun w hC K hK => ?_) ?_
          · have fc := fc0 w hC; (go_wp2_with fail) <;> (first | exact hC | exact hK _ hC)
          simp only [Act.put, List.setIfInBounds_toArray, List.set_cons_zero, List.set_cons_succ]
          refine qW (.slice (some ⟨b, off, none⟩) ls.length c) rfl rfl (fun w hC K hK => ?_) ?_
          · have fc := fc0 w hC; (go_wp2_with fail) <;> (first | exact hC | exact hK _ hC)
          simp only [Act.put, List.setIfInBounds_toArray, List.set_cons_zero, List.set_cons_succ]
          refine qW (.int .i64 (k : Int)) rfl rfl (fun w hC K hK => ?_) ?_
          · have fc := fc0 w hC; (go_wp2_with fail) <;> (first | exact hC | exact hK _ hC)
          simp only [Act.put, List.setIfInBounds_toArray, List.set_cons_zero, List.set_cons_succ]
          refine qW (.pointer (some ⟨b, off + k, none⟩)) rfl rfl (fun w hC K hK => ?_) ?_
          · have fc := fc0 w hC; (go_wp2_with fail) <;> (first | exact hC | exact hK _ hC)
          simp only [Act.put, List.setIfInBounds_toArray, List.set_cons_zero, List.set_cons_succ]
          refine qW (.slice X n cX) rfl rfl (fun w hC K hK => ?_) ?_
          · have fc := fc0 w hC; (go_wp2_with fail) <;> (first | exact hC | exact hK _ hC)
          simp only [Act.put, List.setIfInBounds_toArray, List.set_cons_zero, List.set_cons_succ]
          refine qW (.int .i64 (n : Int)) rfl rfl (fun w hC K hK => ?_) ?_
          · have fc := fc0 w hC; (go_wp2_with fail) <;> (first | exact hC | exact hK _ hC)
          simp only [Act.put, List.setIfInBounds_toArray, List.set_cons_zero, List.set_cons_succ]
          refine qW (.int .i64 (M : Int)) rfl rfl (fun w hC K hK => ?_) ?_
          · exact op_min ((F : Int) + 32) (n : Int) (M : Int) HMI.out rfl rfl rfl (hK _ hC)
          simp only [Act.put, List.setIfInBounds_toArray, List.set_cons_zero, List.set_cons_succ]
          refine qW (.slice A6 ct.length C6) rfl rfl (fun w hC K hK => ?_) ?_
          · refine op_cut Try.underlying39 sz_i16 F M (by omega) (by omega) rfl rfl rfl rfl ?_; rw [HA6.out, HL6.out, HC6.out]; exact hK _ hC
          simp only [Act.put, List.setIfInBounds_toArray, List.set_cons_zero, List.set_cons_succ]
          refine qC (fun w hC => Calls.cls_same hC (error_any w A6 C6 ct (hC.reads RCT.out) HCR.out (by omega))) rfl (fun w => ?_) ?_
          · go_simp; try rfl
          simp only [Act.put, List.setIfInBounds_toArray, List.set_cons_zero, List.set_cons_succ]
          refine qW (.int .i64 (hlfE (expo ct) : Int)) rfl rfl (fun w hC K hK => ?_) ?_
          · have fc := fc0 w hC; (go_wp2_with fail) <;> (first | exact hC | exact hK _ hC)
          simp only [Act.put, List.setIfInBounds_toArray, List.set_cons_zero, List.set_cons_succ]
          refine qN ?_
          intro w6 hw6

          have HO6 := Lib.hid (HO5.out.then hw6)
          have c1 := Cls.cell (show Cls w3 w6 from HO6.out) C1.out
          have c2 := Cls.cell (show Cls w3 w6 from HO6.out) C2.out
          obtain ⟨x, hx⟩ : ∃ x, l[i]? = some x := ⟨_, List.getElem?_eq_getElem (by have := HL0.out; omega)⟩
          obtain ⟨y, hy⟩ : ∃ y, (rw1 l)[i]? = some y := ⟨_, List.getElem?_eq_getElem (by have := HLN.out; omega)⟩
          have hx' : (sV l)[i]? = some (.int .i16 x) := by simp [sV, hx]
          have hy' : (sV (rw1 l))[i]? = some (.int .i16 y) := by simp [sV, hy]
          obtain ⟨bX, oX, rfl, hcX⟩ := (R1.out.then HO6.out).plain (by omega) (by omega)
          obtain ⟨bY, oY, rfl, hcY⟩ := (R2.out.then HO6.out).plain (by omega) (by omega)
          have c3 := hcX _ _ hx'
          have c4 := hcY _ _ hy'
          obtain ⟨hn1, hn2⟩ := HNR.out x y hx hy
          have hxr := HRG.out x (List.mem_of_getElem? hx)
          have hyr := rw1_rng HRG.out y (List.mem_of_getElem? hy)
          clear hcX hcY hx hx' hy hy' fc0 hw6
          generalize hlfE (expo ct) = E at hn1 hn2 ⊢
          go_wp2_with fail
          go_region
          all_goals go_wp2_with fail
          go_roundw
          case rel => exact ⟨i + 1, by omega, by go_num, Lib.hid HO6.out.drew⟩
          case measure => simp [intOf]; omega
        · have hie : i = n := by omega
          subst hie
          go_wp2_with fail
          go_roundw
          case rel => exact ⟨k + 1, by omega, by go_num, HO5⟩
          case measure => simp [intOf]; omega
    · have hke : k = ls.length := by omega
      subst hke
      go_wp2_with fail
      refine (awake_any _).mono ?_
      rintro e w5 ⟨rfl, o5⟩
      have HO5 := Lib.hid ((HO3.out.then HO.out).then o5)
      clear o5
      go_wp2_with fail
      go_ret
      exact ⟨rfl, HO5.out⟩
end Go.Proofs.Ytmojlfgfaabegaa.audioBack
