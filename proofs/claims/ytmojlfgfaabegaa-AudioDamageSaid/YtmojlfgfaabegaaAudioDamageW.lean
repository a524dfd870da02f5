/- Proved: AudioDamage returns true for all its arguments, which read afterwards as before. No condition. -/
import Derived.Test.YtmojlfgfaabegaaA23
import Derived.Test.YtmojlfgfaabegaaOp
namespace Go.Proofs.Ytmojlfgfaabegaa.audioDamage
open Go.ChangeShapes Go.WideShapes Go.ChangeAt Go.RowKit bt

set_option maxRecDepth 100000 in
set_option maxHeartbeats 4000000 in
theorem walk (w : World) (A : Option Addr) (c : Nat) (hs : List (Option Addr × Nat)) (ls : List (List Int)) (h : PcmIs w A hs ls) (hm : ls.length ≤ maxLen) (hb : ∀ l ∈ ls, l.length ≤ maxLen ∧ ∀ z ∈ l, -32768 ≤ z ∧ z ≤ 32767) (z : Int) (hz : -9223372036854775808 ≤ z ∧ z ≤ 9223372036854775807) (v : Int) (hv : 0 ≤ v ∧ v ≤ 255) :
    Calls Try.prog 9 #[.slice A ls.length c, .int .i64 z, .int .u8 v] w fun e w' => e = .returned (.bool true) ∧ Only [] w w' := by
  unfold maxLen at hm hb
  have HP := Lib.hid h
  have HB := Lib.hid hb
  clear h hb
  go_enter Try.func9, Try.ntmps9
  go_wp2_with fail
  refine (light_any _ A c hs ls HP.out 400 400 rfl (by omega) (fun l hl => (HB.out l hl).1)).mono ?_
  rintro e w1 ⟨rfl, rfl⟩
  cases hlit : lit ls 400 with
  | false =>
    clear hlit
    go_wp2_with fail
    refine (awake_any _).mono ?_
    rintro e w1 ⟨rfl, o1⟩
    have HO1 := Lib.hid o1
    clear o1
    go_wp2_with fail
    go_ret
    exact ⟨rfl, HO1.out⟩
  | true =>
  obtain ⟨hl6, hl400⟩ := lit_true.1 hlit
  have H400 := Lib.hid hl400
  have HLM := Lib.hid (show ∀ l ∈ ls, l.length ≤ 1099511627776 ∧ ∀ z ∈ l, -32768 ≤ z ∧ z ≤ 32767 from fun l hl => ⟨by have := hl400 l hl; omega, (HB.out l hl).2⟩)
  clear hlit hl400 HB hm
  go_wp2_with fail
  refine (refProper_any _ A c hs ls HP.out (by omega) (fun l hl => (HLM.out l hl).1)).mono ?_
  rintro e w1 ⟨rfl, o1⟩
  have HO1 := Lib.hid o1
  clear o1
  cases hpr : pr ls 1048576 with
  | false =>
    clear hpr
    go_wp2_with fail
    refine (awake_any _).mono ?_
    rintro e w2 ⟨rfl, o2⟩
    have HO2 := Lib.hid (HO1.out.then o2)
    clear o2
    go_wp2_with fail
    go_ret
    exact ⟨rfl, HO2.out⟩
  | true =>
  obtain ⟨hcd, he0⟩ := Coded.of hpr (fun l hl => (HLM.out l hl).2)
  obtain ⟨hc1, hc4, _⟩ := hcd.le
  have hn400 := coded_n hcd H400.out
  have HPL := Lib.hid hcd.c_drop.2.1
  have HLT := Lib.hid (EN_lt ls)
  obtain ⟨l0, hl0⟩ : ∃ l0, ls[0]? = some l0 := ⟨_, List.getElem?_eq_getElem (by omega)⟩
  obtain ⟨b0, off0, X0, cX0, rfl, c00, _, _⟩ := HP.out.at_ hl0
  have hhd : (ls.headD []).length = l0.length := by rw [head_get hl0]
  rw [Nat.add_zero] at c00
  have C00 := Lib.hid c00
  clear hl0 c00
  have c00 := Cls.cell (show Cls w w1 from HO1.out) C00.out
  by_cases h00 : l0.length = 0
  · have h00' : ((l0.length : Int) == 0) = true := by rw [beq_iff_eq]; omega
    clear he0 hpr hcd hhd h00
    go_wp2_with fail
    refine (awake_any _).mono ?_
    rintro e w2 ⟨rfl, o2⟩
    have HO2 := Lib.hid (HO1.out.then o2)
    clear o2
    go_wp2_with fail
    go_ret
    exact ⟨rfl, HO2.out⟩
  have h00' : ((l0.length : Int) == 0) = false := by rw [beq_eq_false_iff_ne]; omega
  have h0n : 0 < (ls.headD []).length := by omega
  clear hhd h00
  by_cases hz0 : z < 0
  · clear he0 hpr hcd h0n
    go_wp2_with fail
    refine (awake_any _).mono ?_
    rintro e w2 ⟨rfl, o2⟩
    have HO2 := Lib.hid (HO1.out.then o2)
    clear o2
    go_wp2_with fail
    go_ret
    exact ⟨rfl, HO2.out⟩
  have hzd : decide (z < 0) = false := decide_eq_false hz0
  obtain ⟨zn, rfl⟩ : ∃ zn : Nat, z = (zn : Int) := ⟨z.toNat, by omega⟩
  obtain ⟨vn, rfl⟩ : ∃ vn : Nat, v = (vn : Int) := ⟨v.toNat, by omega⟩
  clear hz0
  by_cases hv0 : vn = 0
  · subst hv0
    clear he0 hpr hcd h0n
    go_wp2_with fail
    refine (awake_any _).mono ?_
    rintro e w2 ⟨rfl, o2⟩
    have HO2 := Lib.hid (HO1.out.then o2)
    clear o2
    go_wp2_with fail
    go_ret
    exact ⟨rfl, HO2.out⟩
  have hvd : ((vn : Int) == 0) = false := by simp; omega
  have hv8 : vn < 256 := by omega
  have HV := Lib.hid hv0
  clear hv hv0
  go_wp2_with fail
  clear hzd hvd c00
  refine (encode_any _ _ c hs ls (HP.out.then HO1.out) (by omega) HLM.out).mono ?_
  rintro e w2 ⟨A1, c1, rfl, r1, o1, hcap1⟩
  rw [he0]
  have HCD := Lib.hid hcd
  clear hcd he0 hpr
  generalize hp : (EN ls).1 = p at r1 hcap1 HPL HLT HCD ⊢
  generalize hn : (ls.headD []).length = n at HPL HCD hn400 ⊢
  have HN := Lib.hid hn
  have hplen : p.length ≤ 2000 := coded_len HCD.out hn400
  have HR1 := Lib.hid r1
  have HO2 := Lib.hid (HO1.out.then o1)
  have HP2 := Lib.hid ((HP.out.then HO1.out).then o1)
  clear r1 o1 hp hn HP
  go_wp2_with fail
  refine (decode_any _ A1 c1 p HR1.out hcap1 HLT.out (by omega)).mono ?_
  rintro e w3 ⟨A2, c2, hs2, B2, d2, rfl, hp2, hr2, o2⟩
  rw [HCD.out.c_all] at hp2 hr2 ⊢
  have HP3 := Lib.hid hp2
  have HO3 := Lib.hid (HO2.out.then o2)
  have HR3 := Lib.hid (HR1.out.then o2)
  have HPO := Lib.hid (HP2.out.then o2)
  clear hp2 hr2 o2 HO2 HR1 HP2
  have hlm : (ls.map rw1).length = ls.length := List.length_map ..
  simp only [hlm, List.length_nil] at ⊢
  clear hlm
  have hp10 : 10 < p.length := coded_long HCD.out (by rw [← HN.out]; exact h0n)
  have hd10 : decide ((p.length : Int) ≤ 10) = false := decide_eq_false (by omega)
  have hbz : bsz (ls.length : Int) = (szN ls.length : Int) := bsz_nat hc1 hc4
  have HSB := Lib.hid (coded_S HCD.out)
  go_wp2_with fail
  refine (blockSize_any _ (ls.length : Int) (by omega)).mono ?_
  rintro e w4 ⟨rfl, rfl⟩
  rw [hbz]
  clear hbz
  generalize hS : szN ls.length = S at HPL HCD HSB ⊢
  obtain ⟨hS1, hS2⟩ := HSB.out
  obtain ⟨kk, hkk⟩ : ∃ kk : Nat, kk = zn % (p.length - 10) := ⟨_, rfl⟩
  have hkl : kk < p.length - 10 := by rw [hkk]; exact Nat.mod_lt _ (by omega)
  have hkd : (zn : Int) % ((p.length : Int) - 10) = (kk : Int) := by
    rw [hkk, show (p.length : Int) - 10 = ((p.length - 10 : Nat) : Int) by omega, Int.natCast_emod]
  have hkS : kk < nblk n * S := by have := HPL.out; omega
  clear hS HSB hkk h0n h00'
  obtain ⟨i0, hi0, hz0, hz1, hz2⟩ := info_parts info_u8
  have tok : True := trivial
  have tok2 : True := trivial
  go_wp2_with (first | (clear tok; refine wpList_bs0 rfl 22 5 rfl i0 Try.underlying22 hi0 ?_) | (clear tok2; at_builtin; refine wpList_app1 _ rfl _ _ 22 rfl 5 i0 (.int .u8 0) 1 1 Try.underlying22 hi0 hz0 hz1 hz2 rfl (by decide) _ _ _ _ rfl (own_empty _ _ _) A1 p.length c1 (bytesV p) rfl (HR3.out.alloc _) (bytesV_one p) ?c3 ?c4 ?c5 ?_))
  case c3 => unfold maxLen; omega
  case c4 => omega
  case c5 => omega
  intro r c5 w5 own5 o5 f5
  have hr5 : w3.heap.size ≤ r := by
    rcases f5 with h5 | h5
    · simp [rowFp, Value.ownBlock] at h5; omega
    · first | omega | (simp at h5; omega)
  have ho5 : Only [] w3 w5 := ((Only.refl _ _).alloc _).trans o5 (fun k hk => by simp [rowFp, Value.ownBlock] at hk; subst hk; exact .inr (Nat.le_refl _))
  have own5' : w5.ownsRow 0 5 1 (.slice (some ⟨r, 0, none⟩) p.length c5) p.length (bytesV p) := by simpa using own5
  obtain ⟨J, hJ⟩ : ∃ J, J = 10 + kk := ⟨_, rfl⟩
  have hJl : J < p.length := by omega
  have hJi : (10 : Int) + (kk : Int) = (J : Int) := by omega
  obtain ⟨x, hx⟩ : ∃ x, p[J]? = some x := ⟨_, List.getElem?_eq_getElem hJl⟩
  have hx8 := HLT.out x (List.mem_of_getElem? hx)
  have hxg : p.getD (10 + kk) 0 = x := by rw [← hJ, List.getD_eq_getElem?_getD, hx]; rfl
  have hcl : w5.cell? ⟨r, J, none⟩ = some (.int .u8 (x : Int)) := by
    have := own5'.cells (g := r) rfl J (.int .u8 (x : Int)) (by simp [bytesV, hx])
    rwa [add_plain, Nat.zero_add] at this
  have hfz := own5'.frozenAt J
  have hxo : bits BinOp.xor IntKind.u8 (x : Int) (vn : Int) = ((x ^^^ vn : Nat) : Int) := u8_xor_nat x vn hx8 hv8
  have hyl := xor_lt hx8 hv8
  have hyn := xor_ne (x := x) HV.out
  generalize x ^^^ vn = y at hxo hyl hyn
  obtain ⟨hst, hgr⟩ := own5'.stored J (.int .u8 (y : Int))
  rw [bytesV_set] at hst
  have hon : Only [] w3 (w5.setCell ⟨r, J, none⟩ (.int .u8 (y : Int))) := ho5.trans ((Only.refl [r] w5).setCell (.inl (by simp)) _) (fun k hk => by simp at hk; subst hk; exact .inr hr5)
  have HDM := Lib.hid (HCD.out.damage HLT.out hkS hyl (by rw [hxg]; exact hyn))
  have HON := Lib.hid hon
  have HQR := Lib.hid (Reads.of_own hst)
  have hcq := own_cap hst
  have HQL := Lib.hid (show (p.set J y).length = p.length from List.length_set ..)
  have HQ8 := Lib.hid (show ∀ x ∈ p.set J y, x < 256 from fun z hz => by
    rcases List.mem_or_eq_of_mem_set hz with h | h
    · exact HLT.out z h
    · omega)
  rw [← hJ] at HDM
  clear own5 o5 f5 ho5 own5' hx hxg hst hgr hon hJ hJl hyn
  generalize p.set J y = qq at HDM HQR HQL HQ8
  go_wp2_with fail
  clear hcl hfz hxo hJi
  generalize w5.setCell ⟨r, J, none⟩ (.int .u8 (y : Int)) = w6 at HON HQR ⊢
  have hqq : qq.length = p.length := HQL.out
  refine (show Calls Try.prog 28 #[.slice (some ⟨r, 0, none⟩) p.length c5] w6 (DecC qq w6) from by rw [← hqq]; rw [← hqq] at HQR hcq; exact decode_any _ _ c5 qq HQR.out hcq HQ8.out (by omega)).mono ?_
  rintro e w7 ⟨A4, c4, hs4, B4, d4, rfl, hp4, hr4, o4⟩
  rw [HDM.out] at hp4 hr4 ⊢
  have hlm : (ls.map (dmg (kk / S))).length = ls.length := List.length_map ..
  have hdiv : (kk : Int) / (S : Int) = ((kk / S : Nat) : Int) := (Int.natCast_ediv _ _).symm
  have HP4 := Lib.hid hp4
  have HR4 := Lib.hid hr4
  have HP5 := Lib.hid ((HP3.out.then HON.out).then o4)
  have HO4 := Lib.hid ((HO3.out.then HON.out).then o4)
  simp only [hlm, List.length_cons, List.length_nil, Nat.zero_add] at ⊢
  clear hlm hp4 hr4 o4 hqq HDM HQR HQL HQ8 HON HO3 HP3
  have hq0 : kk / S ≤ 2000 := Nat.le_trans (Nat.div_le_self _ _) (by omega)
  generalize kk / S = q0 at hdiv HP4 HR4 hq0
  have hS0 : (0 : Int) < (S : Int) := by omega
  go_wp2_with fail
  have o8 : Only [] w7 (w7.alloc (.cells #[.int .i64 (q0 : Int)] 3)) := (Only.refl _ _).alloc _
  have HN8 := Lib.hid (show Reads (w7.alloc (.cells #[.int .i64 (q0 : Int)] 3)) (some ⟨w7.heap.size, 0, none⟩) 1 1 (iV [(q0 : Int)]) from Reads.one _ _ _)
  have HR8 := Lib.hid (show Reads (w7.alloc (.cells #[.int .i64 (q0 : Int)] 3)) B4 1 1 (iV [(q0 : Int)]) from HR4.out.then o8)
  have HP8 := Lib.hid (HP4.out.then o8)
  have HP9 := Lib.hid (HP5.out.then o8)
  have HO8 := Lib.hid (HO4.out.then o8)
  clear HR4 HP4 HP5 HO4 o8
  generalize w7.alloc (.cells #[.int .i64 (q0 : Int)] 3) = w8 at HN8 HR8 HP8 HP9 HO8 ⊢
  generalize w7.heap.size = g8 at HN8 ⊢
  refine (sameNumbers_any w8 B4 (some ⟨g8, 0, none⟩) d4 1 [(q0 : Int)] HR8.out HN8.out (by simp)).mono ?_
  rintro e w9 ⟨rfl, o9⟩
  have HP4 := Lib.hid (HP8.out.then o9)
  have HP5 := Lib.hid (HP9.out.then o9)
  have HO4 := Lib.hid (HO8.out.then o9)
  clear HN8 HR8 HP8 HP9 HO8 o9
  go_wp2_with fail
  go_loopw [18] (fun i wr => ∃ k : Nat, k ≤ ls.length ∧ i = .int .i64 (k : Int) ∧ Hid (Only [] w9 wr)) (fun i _ => ls.length - (intOf i).toNat)
  case atStart => exact ⟨0, Nat.zero_le _, rfl, Lib.hid (Only.refl _ _)⟩
  case round =>
    obtain ⟨k, hk, rfl, HO⟩ := hrel
    by_cases hlt : k < ls.length
    · obtain ⟨l, hl⟩ : ∃ l, ls[k]? = some l := ⟨_, List.getElem?_eq_getElem hlt⟩
      have hln0 : l.length = n := HCD.out.c_row (List.mem_of_getElem? hl)
      have hln : (rw1 l).length = n := by rw [rw1_len]; exact hln0
      have hlm : (dmg q0 l).length = n := by rw [dmg_len]; exact hln0
      have hl' : (ls.map rw1)[k]? = some (rw1 l) := by rw [List.getElem?_map, hl]; rfl
      have hl'' : (ls.map (dmg q0))[k]? = some (dmg q0 l) := by rw [List.getElem?_map, hl]; rfl
      obtain ⟨b2, off2, Y, cY, rfl, c2, r2, _⟩ := HP4.out.at_ hl''
      obtain ⟨b, off, X, cX, rfl, c1, r1, _⟩ := HP5.out.at_ hl'
      rw [hlm] at c2 r2
      rw [hln] at c1 r1
      have hki : (k : Int) < (ls.length : Int) := by omega
      have C1 := Lib.hid c1
      have C2 := Lib.hid c2
      have R1 := Lib.hid r1
      have R2 := Lib.hid r2
      have HLN := Lib.hid hln
      have HLM2 := Lib.hid hlm
      clear hl hl' hl'' hln hln0 hlm c1 c2 r1 r2
      have c1 := Cls.cell (show Cls w9 wr from HO.out) C1.out
      have c2 := Cls.cell (show Cls w9 wr from HO.out) C2.out
      go_wp2_with fail
      go_region
      all_goals go_wp2_with fail
      go_loopw [19] (fun iv wr => ∃ i : Nat, i ≤ n ∧ iv = .int .i64 (i : Int) ∧ Hid (Only [] w9 wr)) (fun iv _ => n - (intOf iv).toNat)
      case atStart => exact ⟨0, Nat.zero_le _, rfl, Lib.hid HO.out.drew⟩
      case round =>
        obtain ⟨i, hi, rfl, HO5⟩ := hrel
        have c1 := Cls.cell (show Cls w9 wr from HO5.out) C1.out
        have c2 := Cls.cell (show Cls w9 wr from HO5.out) C2.out
        by_cases hil : i < n
        · have hid : (i : Int) < (n : Int) := by omega
          obtain ⟨x, hx⟩ : ∃ x, (rw1 l)[i]? = some x := ⟨_, List.getElem?_eq_getElem (by have := HLN.out; omega)⟩
          obtain ⟨y, hy⟩ : ∃ y, (dmg q0 l)[i]? = some y := ⟨_, List.getElem?_eq_getElem (by have := HLM2.out; omega)⟩
          have hx' : (sV (rw1 l))[i]? = some (.int .i16 x) := by simp [sV, hx]
          have hy' : (sV (dmg q0 l))[i]? = some (.int .i16 y) := by simp [sV, hy]
          obtain ⟨bX, oX, rfl, hcX⟩ := (R1.out.then HO5.out).plain (by omega) (by omega)
          obtain ⟨bY, oY, rfl, hcY⟩ := (R2.out.then HO5.out).plain (by omega) (by omega)
          have c3 := hcX _ _ hx'
          have c4 := hcY _ _ hy'
          have hyx := dmg_get hx hy
          have hi32 : (i : Int) / 32 = ((i / 32 : Nat) : Int) := by omega
          clear hcX hcY hx hx' hy hy'
          by_cases hcc : i / 32 = q0
          · rw [if_pos hcc] at hyx
            subst hyx
            have heq : ((i : Int) / 32 == (q0 : Int)) = true := by rw [beq_iff_eq]; omega
            clear hcc hi32
            go_wp2_with fail
            go_roundw
            case rel => exact ⟨i + 1, by omega, by go_num, HO5⟩
            case measure => simp [intOf]; omega
          · rw [if_neg hcc] at hyx
            subst hyx
            have heq : ((i : Int) / 32 == (q0 : Int)) = false := by rw [beq_eq_false_iff_ne]; omega
            clear hcc hi32
            go_wp2_with fail
            go_roundw
            case rel => exact ⟨i + 1, by omega, by go_num, HO5⟩
            case measure => simp [intOf]; omega
        · have hie : i = n := by omega
          subst hie
          go_wp2_with fail
          go_roundw
          case rel => exact ⟨k + 1, by omega, by go_num, HO5⟩
          case measure => simp [intOf]; omega
    · have hke : k = ls.length := by omega
      subst hke
      go_wp2_with fail
      refine (awake_any _).mono ?_
      rintro e w5 ⟨rfl, o5⟩
      have HO5 := Lib.hid ((HO4.out.then HO.out).then o5)
      clear o5
      go_wp2_with fail
      go_ret
      exact ⟨rfl, HO5.out⟩
end Go.Proofs.Ytmojlfgfaabegaa.audioDamage
