/- Contracts of the reference's Take and TakeSigned of chapter 4. -/
import Derived.Test.YtkojnmphgdlmdaaVt
import Derived.Test.YtkojnmphgdlmdaaRn
namespace Go.Proofs.Ytkojnmphgdlmdaa
open Go.RowKit bt

theorem take_split (m : List Bool) (hz : 2 * zrun m + 1 ≤ m.length) : num (m.take (2 * zrun m + 1)) = 2 ^ zrun m + num ((m.drop (zrun m + 1)).take (zrun m)) := by
  have h1 : m.take (2 * zrun m + 1) = m.take (zrun m) ++ true :: (m.drop (zrun m + 1)).take (zrun m) := by
    apply List.ext_getElem?
    intro i
    rcases Nat.lt_trichotomy i (zrun m) with h | h | h
    · rw [List.getElem?_take_of_lt (by omega), List.getElem?_append_left (by simp; omega), List.getElem?_take_of_lt h]
    · rw [List.getElem?_take_of_lt (by omega), List.getElem?_append_right (by simp; omega), h, zrun_one m (by omega)]
      simp [Nat.min_eq_left (show zrun m ≤ m.length by omega)]
    · rw [List.getElem?_append_right (by simp; omega)]
      have e : i - (m.take (zrun m)).length = (i - zrun m - 1) + 1 := by simp; omega
      rw [e, List.getElem?_cons_succ]
      by_cases h2 : i < 2 * zrun m + 1
      · rw [List.getElem?_take_of_lt h2, List.getElem?_take_of_lt (by omega), List.getElem?_drop]
        congr 1; omega
      · rw [List.getElem?_eq_none (by simp; omega), List.getElem?_eq_none (by simp; omega)]
  have h2 : m.take (zrun m) = List.replicate (zrun m) false := by
    apply List.ext_getElem?
    intro i
    by_cases h : i < zrun m
    · rw [List.getElem?_take_of_lt h, zrun_zero m i h, List.getElem?_replicate, if_pos h]
    · rw [List.getElem?_eq_none (by simp; omega), List.getElem?_eq_none (by simp; omega)]
  have h3 : ∀ k, num (List.replicate k false) = 0 := by
    intro k
    induction k with
    | zero => rfl
    | succ k ih => rw [List.replicate_succ, num_cons, ih]; simp
  rw [h1, num_append, h2, h3, num_cons]
  have h4 : ((m.drop (zrun m + 1)).take (zrun m)).length = zrun m := by simp; omega
  rw [h4]
  simp

set_option maxHeartbeats 2000000 in
theorem refTakeU_any (w : World) (g b c : Nat) (l : List Bool) (at_ : Nat) (h : RefIs w g b c l at_) :
    Calls Try.prog 37 #[.pointer (some ⟨g, 0, none⟩)] w fun e w' => e = .returned (.tuple #[.int .i64 (uVal (l.drop at_) : Int), .int .i64 (uErr (l.drop at_))]) ∧ RefIs w' g b c l (at_ + uLen (l.drop at_)) ∧ Only [g] w w' := by
  obtain ⟨m, hm⟩ : ∃ m, m = l.drop at_ := ⟨_, rfl⟩
  rw [← hm]
  have hml : m.length = l.length - at_ := by rw [hm]; simp
  have Hm := Lib.hid hm
  have Hml := Lib.hid hml
  have Hh := Lib.hid h
  have hatn := h.2.2.2.1
  have hll := h.2.2.2.2
  clear hm hml h
  go_enter Try.func37, Try.ntmps37
  go_wp2_with fail
  go_loopw [4] (fun i wr => ∃ k : Nat, k < 16 ∧ k ≤ zrun m ∧ i = .int .i64 k ∧ RefIs wr g b c l at_ ∧ Only [] w wr) (fun i _ => 16 - (intOf i).toNat)
  case atStart => exact ⟨0, by omega, Nat.zero_le _, rfl, Hh.out, Only.refl _ _⟩
  case round =>
    obtain ⟨k, hk, hkz, rfl, hrf, ho⟩ := hrel
    have hzl := zrun_le m
    have hc0 := hrf.1.cell 0
    have hc1 := hrf.1.cell 1
    simp only [List.getElem?_toArray, List.getElem?_cons_succ, List.getElem?_cons_zero] at hc0 hc1
    have HRL := Lib.hid (fun q => refLeft_quiet hrf q)
    have Hrf := Lib.hid hrf
    clear hrf
    have fin : ∀ (wq : World), zrun m = k → RefIs wq g b c l at_ → Only [] w wq → True := fun _ _ _ _ => trivial
    clear fin
    by_cases hlt : at_ + k < l.length
    · have hgd : decide ((k : Int) < (l.length : Int) - (at_ : Int)) = true := by simp; omega
      obtain ⟨x, hx⟩ : ∃ x, l[at_ + k]? = some x := ⟨_, List.getElem?_eq_getElem hlt⟩
      have hmk : m[k]? = some x := by rw [Hm.out, List.getElem?_drop]; exact hx
      obtain ⟨b', off, e, hcc⟩ := Hrf.out.2.1.plain (by omega) (by omega)
      injection e with e
      injection e with e1 e2
      subst e1 e2
      have hcx := hcc _ _ (ref_bit l _ _ hx)
      rw [Nat.zero_add] at hcx
      have hi1 : (at_ : Int) + (k : Int) < (l.length : Int) := by omega
      have hi0 : (0 : Int) ≤ (at_ : Int) + (k : Int) := by omega
      have hwr : IntKind.i64.wrap ((at_ : Int) + (k : Int)) = (at_ : Int) + (k : Int) := IntWalk.i64_in _ (by omega)
      have htn : ((at_ : Int) + (k : Int)).toNat = at_ + k := by omega
      clear hcc hx
      cases x with
      | false =>
        have hz := zrun_gt hkz hmk
        clear hmk
        go_wp2_with fail
        go_quiet ((go_at_call 48; exact HRL.out _))
        clear hwr htn
        by_cases hk15 : k = 15
        · subst hk15
          have hE : uErr m = 3 := by unfold uErr; rw [if_pos (by omega)]
          have HE := Lib.hid hE
          clear hE
          go_wp2
          go_ret2
          refine ⟨?_, ?_, (ho.drewN _).mono (by simp)⟩
          · unfold uVal; rw [HE.out]; rfl
          · unfold uLen; rw [HE.out]; exact Hrf.out.only ((Only.refl [] _).drewN _) (by simp) (by simp)
        · have hkb : (((k : Int) + 1) == 16) = false := beq_eq_false_iff_ne.2 (by omega)
          go_wp2
          go_roundw
          case rel => exact ⟨k + 1, by omega, by omega, by go_num, Hrf.out.only ((Only.refl [] _).drewN _) (by simp) (by simp), ho.drewN _⟩
          case measure => simp [intOf]; omega
      | true =>
        have hz := zrun_eq hkz hmk
        have Hz := Lib.hid hz
        clear hz hmk
        go_wp2_with fail
        go_quiet ((go_at_call 48; exact HRL.out _))
        clear hwr htn
        have hrf2 := Hrf.out.only ((Only.refl [] wr).drewN nq) (by simp) (by simp)
        by_cases hs : at_ + (2 * k + 1) ≤ l.length
        · have hd : decide ((l.length : Int) - (at_ : Int) < 2 * (k : Int) + 1) = false := by simp; omega
          go_wp2_with fail
          refine (refLeft_any _ _ _ _ _ _ hrf2).mono ?_
          rintro e w2 ⟨rfl, rfl⟩
          go_wp2_with fail
          refine (refTake_any _ _ _ _ _ _ (2 * (k : Int) + 1) hrf2.drew).mono ?_
          rintro e w3 ⟨rfl, hr3, ho3⟩
          have hE : uErr m = 0 := by unfold uErr; rw [Hz.out, if_neg (by omega), if_neg (by have := Hml.out; omega)]
          have hTe : takeErr l.length at_ (2 * (k : Int) + 1) = 0 := by unfold takeErr; rw [if_neg (by omega), if_neg (by omega)]
          have htn : (2 * (k : Int) + 1).toNat = 2 * k + 1 := by omega
          have hTv : takeVal l at_ (2 * (k : Int) + 1) = uVal m + 1 := by
            unfold takeVal uVal
            rw [if_pos hTe, if_pos hE, htn]
            unfold window
            have h1 := take_split m (by have := Hml.out; have := Hz.out; omega)
            rw [Hz.out, Hm.out] at h1
            rw [Hz.out, Hm.out, h1]
            have := Nat.two_pow_pos k
            omega
          have hTa : takeAt l.length at_ (2 * (k : Int) + 1) = at_ + uLen m := by
            unfold takeAt uLen
            rw [if_pos hTe, if_pos hE, htn, Hz.out]
          rw [hTe, hTv]
          rw [hTa] at hr3
          have hlt2 := uVal_lt m
          have HE := Lib.hid hE
          clear hTe hTv hTa hE htn hd
          go_wp2
          go_ret2
          refine ⟨?_, hr3, (((ho.drewN nq).drew).mono (by simp)).trans ho3 (Fresh.refl _ _)⟩
          rw [HE.out]
          have e : ((uVal m + 1 : Nat) : Int) - 1 = (uVal m : Int) := by omega
          rw [← e]; rfl
        · have hd : decide ((l.length : Int) - (at_ : Int) < 2 * (k : Int) + 1) = true := by simp; omega
          go_wp2_with fail
          refine (refLeft_any _ _ _ _ _ _ hrf2).mono ?_
          rintro e w2 ⟨rfl, rfl⟩
          have hE : uErr m = 4 := by unfold uErr; rw [Hz.out, if_neg (by omega), if_pos (by have := Hml.out; omega)]
          have HE := Lib.hid hE
          clear hE
          go_wp2
          go_ret2
          refine ⟨?_, ?_, ((ho.drewN nq).drew).mono (by simp)⟩
          · unfold uVal; rw [HE.out]; rfl
          · unfold uLen; rw [HE.out]; exact hrf2.drew
    · have hgd : decide ((k : Int) < (l.length : Int) - (at_ : Int)) = false := by simp; omega
      have hd : decide ((l.length : Int) - (at_ : Int) < 2 * (k : Int) + 1) = true := by simp; omega
      have hE : uErr m = 4 := by
        have := Hml.out
        have hz : zrun m = k := by omega
        unfold uErr; rw [hz, if_neg (by omega), if_pos (by omega)]
      have HE := Lib.hid hE
      clear hE
      go_wp2_with fail
      go_quiet ((go_at_call 48; exact HRL.out _))
      have hrf2 := Hrf.out.only ((Only.refl [] wr).drewN nq) (by simp) (by simp)
      go_wp2_with fail
      refine (refLeft_any _ _ _ _ _ _ hrf2).mono ?_
      rintro e w2 ⟨rfl, rfl⟩
      go_wp2
      go_ret2
      refine ⟨?_, ?_, ((ho.drewN nq).drew).mono (by simp)⟩
      · unfold uVal; rw [HE.out]; rfl
      · unfold uLen; rw [HE.out]; exact hrf2.drew
theorem sTake_eq (m : List Bool) : sTake m = sVal (uVal m) := by
  unfold sTake
  by_cases h : uErr m = 0
  · rw [if_pos h]
  · rw [if_neg h]; unfold uVal; rw [if_neg h]; rfl
theorem refTakeS_any (w : World) (g b c : Nat) (l : List Bool) (at_ : Nat) (h : RefIs w g b c l at_) :
    Calls Try.prog 38 #[.pointer (some ⟨g, 0, none⟩)] w fun e w' => e = .returned (.tuple #[.int .i64 (sTake (l.drop at_)), .int .i64 (uErr (l.drop at_))]) ∧ RefIs w' g b c l (at_ + uLen (l.drop at_)) ∧ Only [g] w w' := by
  obtain ⟨m, hm⟩ : ∃ m, m = l.drop at_ := ⟨_, rfl⟩
  have hu := refTakeU_any w g b c l at_ h
  rw [← hm] at hu ⊢
  have HU := Lib.hid hu
  clear hm h hu
  have hlt := uVal_lt m
  rw [sTake_eq]
  generalize uVal m = x at HU hlt ⊢
  by_cases hx : x % 2 = 1
  · have hxb : ((x : Int) % 2 == 1) = true := by simp; omega
    have hv : sVal x = ((x : Int) + 1) / 2 := by unfold sVal; rw [if_pos hx]
    have Hv := Lib.hid hv
    clear hv hx
    go_enter Try.func38, Try.ntmps38
    go_wp2_with fail
    refine HU.out.mono ?_
    rintro e w1 ⟨rfl, hr1, ho1⟩
    go_wp2_with fail
    go_ret2
    refine ⟨?_, hr1, ho1⟩
    rw [Hv.out]; rfl
  · have hxb : ((x : Int) % 2 == 1) = false := beq_eq_false_iff_ne.2 (by omega)
    have hv : sVal x = -((x : Int) / 2) := by unfold sVal; rw [if_neg hx]
    have Hv := Lib.hid hv
    clear hv hx
    go_enter Try.func38, Try.ntmps38
    go_wp2_with fail
    refine HU.out.mono ?_
    rintro e w1 ⟨rfl, hr1, ho1⟩
    go_wp2_with fail
    go_ret2
    refine ⟨?_, hr1, ho1⟩
    rw [Hv.out]; rfl
end Go.Proofs.Ytkojnmphgdlmdaa
