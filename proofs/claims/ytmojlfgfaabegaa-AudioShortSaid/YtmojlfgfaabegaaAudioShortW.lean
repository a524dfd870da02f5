/- Proved: AudioShort returns true for all its arguments, which read afterwards as before. No condition. -/
import Derived.Test.YtmojlfgfaabegaaA23
import Derived.Test.YtmojlfgfaabegaaOp
namespace Go.Proofs.Ytmojlfgfaabegaa.audioShort
open Go.ChangeShapes Go.WideShapes Go.ChangeAt Go.RowKit bt

set_option maxRecDepth 100000 in
set_option maxHeartbeats 4000000 in
theorem walk (w : World) (A : Option Addr) (c : Nat) (hs : List (Option Addr × Nat)) (ls : List (List Int)) (h : PcmIs w A hs ls) (hm : ls.length ≤ maxLen) (hb : ∀ l ∈ ls, l.length ≤ maxLen ∧ ∀ z ∈ l, -32768 ≤ z ∧ z ≤ 32767) (z : Int) (hz : -9223372036854775808 ≤ z ∧ z ≤ 9223372036854775807) :
    Calls Try.prog 10 #[.slice A ls.length c, .int .i64 z] w fun e w' => e = .returned (.bool true) ∧ Only [] w w' := by
  unfold maxLen at hm hb
  have HP := Lib.hid h
  have HB := Lib.hid hb
  clear h hb
  go_enter Try.func10, Try.ntmps10
  go_wp2_with fail
  refine (light_any _ A c hs ls HP.out 400 400 rfl (by omega) (fun l hl => (HB.out l hl).1)).mono ?_
  rintro e w1 ⟨rfl, rfl⟩
  cases hlit : lit ls 400 with
  | false =>
    clear hlit
    go_wp2_with fail
    refine (awake_any _).mono ?_
    rintro e w1 ⟨rfl, o1⟩
    have HO1 := Lib.hid o1
    clear o1
    go_wp2_with fail
    go_ret
    exact ⟨rfl, HO1.out⟩
  | true =>
  obtain ⟨hl6, hl400⟩ := lit_true.1 hlit
  have H400 := Lib.hid hl400
  have HLM := Lib.hid (show ∀ l ∈ ls, l.length ≤ 1099511627776 ∧ ∀ z ∈ l, -32768 ≤ z ∧ z ≤ 32767 from fun l hl => ⟨by have := hl400 l hl; omega, (HB.out l hl).2⟩)
  clear hlit hl400 HB hm
  go_wp2_with fail
  refine (refProper_any _ A c hs ls HP.out (by omega) (fun l hl => (HLM.out l hl).1)).mono ?_
  rintro e w1 ⟨rfl, o1⟩
  have HO1 := Lib.hid o1
  clear o1
  cases hpr : pr ls 1048576 with
  | false =>
    clear hpr
    go_wp2_with fail
    refine (awake_any _).mono ?_
    rintro e w2 ⟨rfl, o2⟩
    have HO2 := Lib.hid (HO1.out.then o2)
    clear o2
    go_wp2_with fail
    go_ret
    exact ⟨rfl, HO2.out⟩
  | true =>
  obtain ⟨hcd, he0⟩ := Coded.of hpr (fun l hl => (HLM.out l hl).2)
  obtain ⟨hc1, hc4, _⟩ := hcd.le
  have hn400 := coded_n hcd H400.out
  have HPL := Lib.hid hcd.c_drop.2.1
  have HLT := Lib.hid (EN_lt ls)
  by_cases hz0 : z < 0
  · clear he0 hpr hcd
    go_wp2_with fail
    refine (awake_any _).mono ?_
    rintro e w2 ⟨rfl, o2⟩
    have HO2 := Lib.hid (HO1.out.then o2)
    clear o2
    go_wp2_with fail
    go_ret
    exact ⟨rfl, HO2.out⟩
  have hzd : decide (z < 0) = false := decide_eq_false hz0
  obtain ⟨zn, rfl⟩ : ∃ zn : Nat, z = (zn : Int) := ⟨z.toNat, by omega⟩
  clear hz0
  go_wp2_with fail
  clear hzd
  refine (encode_any _ A c hs ls (HP.out.then HO1.out) (by omega) HLM.out).mono ?_
  rintro e w2 ⟨A1, c1, rfl, r1, o1, hcap1⟩
  rw [he0]
  have HCD := Lib.hid hcd
  clear hcd he0 hpr
  generalize hp : (EN ls).1 = p at r1 hcap1 HPL HLT HCD ⊢
  generalize hn : (ls.headD []).length = n at HPL HCD hn400 ⊢
  have HN := Lib.hid hn
  have hplen : p.length ≤ 2000 := coded_len HCD.out hn400
  have HR1 := Lib.hid r1
  have HO2 := Lib.hid (HO1.out.then o1)
  have HP2 := Lib.hid ((HP.out.then HO1.out).then o1)
  clear r1 o1 hp hn HP
  go_wp2_with fail
  refine (decode_any _ A1 c1 p HR1.out hcap1 HLT.out (by omega)).mono ?_
  rintro e w3 ⟨A2, c2, hs2, B2, d2, rfl, hp2, hr2, o2⟩
  rw [HCD.out.c_all] at hp2 hr2 ⊢
  have HP3 := Lib.hid hp2
  have HO3 := Lib.hid (HO2.out.then o2)
  have HR3 := Lib.hid (HR1.out.then o2)
  have HPO := Lib.hid (HP2.out.then o2)
  clear hp2 hr2 o2 HO2 HR1 HP2
  have hlm : (ls.map rw1).length = ls.length := List.length_map ..
  simp only [hlm, List.length_nil] at ⊢
  clear hlm
  have hp10 : 10 ≤ p.length := by have := HPL.out; omega
  have hd10 : decide ((p.length : Int) < 10) = false := decide_eq_false (by omega)
  go_wp2_with fail
  clear hd10
  have hbz : bsz (ls.length : Int) = (szN ls.length : Int) := bsz_nat hc1 hc4
  have HSB := Lib.hid (coded_S HCD.out)
  refine (blockSize_any _ (ls.length : Int) (by omega)).mono ?_
  rintro e w4 ⟨rfl, rfl⟩
  rw [hbz]
  clear hbz
  generalize hS : szN ls.length = S at HPL HCD HSB ⊢
  obtain ⟨hS1, hS2⟩ := HSB.out
  clear hS HSB
  obtain ⟨left, hleft⟩ : ∃ left : Nat, left = p.length - zn % (p.length - 9) := ⟨_, rfl⟩
  have hmod : zn % (p.length - 9) < p.length - 9 := Nat.mod_lt _ (by omega)
  have hl10 : 10 ≤ left := by omega
  have hlp : left ≤ p.length := by omega
  have hlc : left ≤ c1 := by omega
  have hld : wrap64 ((p.length : Int) - (zn : Int) % ((p.length : Int) - 9)) = (left : Int) := by
    have e1 : (zn : Int) % ((p.length : Int) - 9) = ((zn % (p.length - 9) : Nat) : Int) := by
      rw [show (p.length : Int) - 9 = ((p.length - 9 : Nat) : Int) by omega, Int.natCast_emod]
    rw [e1]
    unfold wrap64
    omega
  have hd10 : decide ((left : Int) < 10) = false := decide_eq_false (by omega)
  clear hleft hmod
  have tok : True := trivial
  go_wp2_with (clear tok; refine arm_front Try.underlying22 sz_u8 left hlc rfl rfl rfl rfl ?_)
  have HRT := Lib.hid (HR3.out.front hlp)
  have htk : (bytesV p).take (left * 1) = bytesV (p.take left) := by rw [Nat.mul_one]; simp [bytesV]
  have HRT2 := Lib.hid (show Reads w3 A1 1 left (bytesV (p.take left)) from by rw [← htk]; exact HRT.out)
  have HTL := Lib.hid (show (p.take left).length = left by rw [List.length_take]; omega)
  clear htk HRT hd10 hld hz
  have HSH := Lib.hid (HCD.out.short hl10 hlp)
  have HLQ := Lib.hid (show ∀ x ∈ p.take left, x < 256 from fun x hx => HLT.out x (List.mem_of_mem_take hx))
  generalize p.take left = q at HRT2 HTL HSH HLQ ⊢
  have hql : left = q.length := HTL.out.symm
  have HDE := Lib.hid (show Calls Try.prog 28 #[.slice A1 left c1] w3 (DecC q w3) from by rw [hql]; rw [hql] at HRT2 hlc; exact decode_any _ A1 c1 q HRT2.out hlc HLQ.out (by omega))
  clear hql
  refine HDE.out.mono ?_
  rintro e w4 ⟨A4, c4, hs4, B4, d4, rfl, hp4, hr4, o4⟩
  obtain ⟨hz4, hl4, hsame⟩ := HSH.out
  rw [hz4, hl4]
  generalize (DE q).2.1.length = nb4
  have HP4 := Lib.hid hp4
  have HP5 := Lib.hid (HP3.out.then o4)
  have HSM := Lib.hid hsame
  have HO4 := Lib.hid (HO3.out.then o4)
  have hl4' : (DE q).1.length = ls.length := hl4
  generalize (DE q).1 = ms at HP4 HSM hl4'
  have HML := Lib.hid hl4'
  clear hp4 hr4 o4 hsame hl4 hl4' hz4 HDE HSH HO3 HP3
  go_wp2_with fail
  go_loopw [15] (fun i wr => ∃ k : Nat, k ≤ ls.length ∧ i = .int .i64 (k : Int) ∧ Hid (Only [] w4 wr)) (fun i _ => ls.length - (intOf i).toNat)
  case atStart => exact ⟨0, Nat.zero_le _, rfl, Lib.hid (Only.refl _ _)⟩
  case round =>
    obtain ⟨k, hk, rfl, HO⟩ := hrel
    by_cases hlt : k < ls.length
    · obtain ⟨l, hl⟩ : ∃ l, ls[k]? = some l := ⟨_, List.getElem?_eq_getElem hlt⟩
      obtain ⟨r, hr, hrn, hrs⟩ := HSM.out k l hl
      have hln : (rw1 l).length = n := by rw [rw1_len]; exact HCD.out.c_row (List.mem_of_getElem? hl)
      have hl' : (ls.map rw1)[k]? = some (rw1 l) := by rw [List.getElem?_map, hl]; rfl
      obtain ⟨b, off, X, cX, rfl, c1, r1, _⟩ := HP5.out.at_ hl'
      obtain ⟨b2, off2, Y, cY, rfl, c2, r2, _⟩ := HP4.out.at_ hr
      rw [hln] at c1 r1
      rw [hrn] at c2 r2
      have hki : (k : Int) < (ls.length : Int) := by omega
      have C1 := Lib.hid c1
      have C2 := Lib.hid c2
      have R1 := Lib.hid r1
      have R2 := Lib.hid r2
      have HRS := Lib.hid hrs
      have HLN := Lib.hid hln
      have HRN := Lib.hid hrn
      clear hl hl' hr hrn hrs hln c1 c2 r1 r2
      have c1 := Cls.cell (show Cls w4 wr from HO.out) C1.out
      have c2 := Cls.cell (show Cls w4 wr from HO.out) C2.out
      go_wp2_with fail
      go_region
      all_goals go_wp2_with fail
      go_loopw [16] (fun iv wr => ∃ i : Nat, i ≤ n ∧ iv = .int .i64 (i : Int) ∧ Hid (Only [] w4 wr)) (fun iv _ => n - (intOf iv).toNat)
      case atStart => exact ⟨0, Nat.zero_le _, rfl, Lib.hid HO.out.drew⟩
      case round =>
        obtain ⟨i, hi, rfl, HO5⟩ := hrel
        have c1 := Cls.cell (show Cls w4 wr from HO5.out) C1.out
        have c2 := Cls.cell (show Cls w4 wr from HO5.out) C2.out
        by_cases hil : i < n
        · obtain ⟨x, hx⟩ : ∃ x, (rw1 l)[i]? = some x := ⟨_, List.getElem?_eq_getElem (by have := HLN.out; omega)⟩
          obtain ⟨y, hy⟩ : ∃ y, r[i]? = some y := ⟨_, List.getElem?_eq_getElem (by have := HRN.out; omega)⟩
          have hx' : (sV (rw1 l))[i]? = some (.int .i16 x) := by simp [sV, hx]
          have hy' : (sV r)[i]? = some (.int .i16 y) := by simp [sV, hy]
          obtain ⟨bX, oX, rfl, hcX⟩ := (R1.out.then HO5.out).plain (by omega) (by omega)
          obtain ⟨bY, oY, rfl, hcY⟩ := (R2.out.then HO5.out).plain (by omega) (by omega)
          have c3 := hcX _ _ hx'
          have c4 := hcY _ _ hy'
          have hid : (i : Int) < (n : Int) := by omega
          have hxy : i / 32 < (left - 10) / S → y = x := fun hlt' => by
            have := HRS.out i hil hlt'
            rw [hy, hx] at this
            injection this
          clear hcX hcY hx hx' hy hy'
          have hS0 : (0 : Int) < (S : Int) := by omega
          have hl0 : (10 : Int) ≤ (left : Int) := by omega
          by_cases hcc : i / 32 < (left - 10) / S
          · have hyx := hxy hcc
            subst hyx
            have hcd : (i : Int) / 32 < ((left : Int) - 10) / (S : Int) := by
              rw [show (left : Int) - 10 = ((left - 10 : Nat) : Int) by omega]
              exact_mod_cast hcc
            clear hxy hcc
            go_wp2_with fail
            go_region
            all_goals go_wp2_with fail
            go_roundw
            case rel => exact ⟨i + 1, by omega, by go_num, Lib.hid HO5.out.drew⟩
            case measure => simp [intOf]; omega
          · have hcd : decide ((i : Int) / 32 < ((left : Int) - 10) / (S : Int)) = false := decide_eq_false (fun h => hcc (by
              rw [show (left : Int) - 10 = ((left - 10 : Nat) : Int) by omega] at h
              exact_mod_cast h))
            clear hxy hcc
            go_wp2_with fail
            go_region
            all_goals go_wp2_with fail
            go_roundw
            case rel => exact ⟨i + 1, by omega, by go_num, Lib.hid HO5.out.drew⟩
            case measure => simp [intOf]; omega
        · have hie : i = n := by omega
          subst hie
          go_wp2_with fail
          go_roundw
          case rel => exact ⟨k + 1, by omega, by go_num, HO5⟩
          case measure => simp [intOf]; omega
    · have hke : k = ls.length := by omega
      subst hke
      go_wp2_with fail
      refine (awake_any _).mono ?_
      rintro e w5 ⟨rfl, o5⟩
      have HO5 := Lib.hid ((HO4.out.then HO.out).then o5)
      clear o5
      go_wp2_with fail
      go_ret
      exact ⟨rfl, HO5.out⟩
end Go.Proofs.Ytmojlfgfaabegaa.audioShort
