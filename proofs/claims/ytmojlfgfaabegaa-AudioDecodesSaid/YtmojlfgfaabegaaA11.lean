/- The reference's PutBlock. -/
import Derived.Test.YtmojlfgfaabegaaA10
import Derived.Test.YtmojlfgfaabegaaBase2
namespace Go.Proofs.Ytmojlfgfaabegaa
open Go.RowKit bt

theorem i64_and511 (y : Int) : bits BinOp.and IntKind.i64 y 511 = y % 512 := by
  show IntKind.i64.wrap ((BitVec.ofInt 64 y &&& BitVec.ofInt 64 511).toNat : Int) = _
  rw [BitVec.toNat_and, show (BitVec.ofInt 64 511).toNat = 2 ^ 9 - 1 from rfl, Nat.and_two_pow_sub_one_eq_mod, BitVec.toNat_ofInt]
  rw [IntWalk.i64_in _ (by omega)]
  omega
set_option maxRecDepth 100000 in
set_option maxHeartbeats 4000000 in
theorem refPutBlock_any (w : World) (A : Option Addr) (c : Nat) (hs : List (Option Addr × Nat)) (ls : List (List Int)) (h : PcmIs w A hs ls) (hn : ls.length ≤ 1099511627776) (hm : ∀ l ∈ ls, l.length ≤ 1099511627776 ∧ ∀ x ∈ l, -32768 ≤ x ∧ x ≤ 32767) :
    Calls Try.prog 22 #[.slice A ls.length c] w (PutC ls w) := by
  obtain ⟨i0, hi0, hz0, hz1, hz2⟩ := info_parts info_u8
  have HB := Lib.hid (refBlock_any w A c hs ls h hn (fun l hl => (hm l hl).1))
  have HP := Lib.hid h
  have HM := Lib.hid hm
  clear h hm
  go_enter Try.func22, Try.ntmps22
  go_wp2_with fail
  refine HB.out.mono ?_
  rintro e w1 ⟨rfl, o1⟩
  have HO1 := Lib.hid o1
  clear HB o1
  cases hb : blk ls with
  | false =>
    have HE := Lib.hid (show PB ls = ([], 1) by unfold PB; rw [if_neg (of_decide_eq_false hb)])
    clear hb
    go_wp2_with fail
    go_ret2
    exact PutC.of HE.out rfl Reads.none_ HO1.out (Nat.le_refl _)
  | true =>
    have hbb := of_decide_eq_true hb
    obtain ⟨hl1, hl4, hall⟩ := pr_true.1 hbb.1
    have Hp := Lib.hid hbb
    have Hall := Lib.hid hall
    obtain ⟨l0, hl0⟩ : ∃ l0, ls[0]? = some l0 := ⟨_, List.getElem?_eq_getElem (by omega)⟩
    have Hl0 := Lib.hid hl0
    have Hhd := Lib.hid (show ls.headD [] = l0 from head_get hl0)
    have hl0m : l0.length ≤ 32 := by have := (hall l0 (List.mem_of_getElem? hl0)).2; omega
    clear hb hbb hall hl0
    obtain ⟨b, off, B0, cB0, rfl, _, _, _⟩ := HP.out.at_ Hl0.out
    go_wp2_with fail
    go_loopw [4, 5] (fun lv i wr => ∃ k : Nat, k ≤ ls.length ∧ i = .int .i64 (k : Int) ∧ ∃ A' c', lv = .slice A' (292 * k) c' ∧ Hid (wr.ownsRow 0 5 1 (.slice A' (292 * k) c') (292 * k) (bytesV (flat (chs ls k)))) ∧ Hid (Only [] w wr) ∧ Hid (Fresh w [] (rowFp (.slice A' (292 * k) c')))) (fun _ i _ => ls.length - (intOf i).toNat)
    case atStart => exact ⟨0, Nat.zero_le _, rfl, none, 0, rfl, Lib.hid (World.ownsRow_nil _ _ _ _), HO1, Lib.hid (by simp [Fresh, rowFp, Value.ownBlock])⟩
    case round =>
      obtain ⟨k, hk, rfl, A', c', rfl, HOW, HO, HF⟩ := hrel
      by_cases hlt : k < ls.length
      · obtain ⟨l, hl⟩ : ∃ l, ls[k]? = some l := ⟨_, List.getElem?_eq_getElem hlt⟩
        have RAT := Lib.hid hl
        obtain ⟨b', off', B, cB, hA, cl0, rl0, hhs⟩ := HP.out.at_ hl
        have cl := Cls.cell (show Cls w wr from HO.out) cl0
        have rl := rl0.then HO.out
        injection hA with hA
        injection hA with hA1 hA2
        subst hA1 hA2
        have hki : (k : Int) < (ls.length : Int) := by omega
        have hgd : ls.getD k [] = l := by rw [List.getD_eq_getElem?_getD, hl]; rfl
        have hlm := (Hall.out l (List.mem_of_getElem? hl)).2
        have Hlx := Lib.hid ((HM.out l (List.mem_of_getElem? hl)).2)
        have Hgd := Lib.hid hgd
        have RL0 := Lib.hid rl0
        have hl32 : l.length ≤ 32 := by omega
        have CL0 := Lib.hid cl0
        clear hl hgd hhs cl0 rl0
        go_wp2_with fail
        refine (refExponent_any _ B cB l rl Hlx.out (by omega)).mono ?_
        rintro e w5 ⟨rfl, rfl⟩
        have he7 := expo_le l
        clear rl cl
        go_wp2_with fail
        refine (refBits_any _ (expo l) 4 (by omega) (by omega)).mono ?_
        rintro e w6 ⟨A6, c6, rfl, own6, o6, f6⟩
        have hown6 := own_only HOW.out o6 (by simp)
        have RD6 := Lib.hid (Reads.of_own own6)
        clear own6 f6
        go_wp2_with (at_builtin; refine wpList_app _ rfl _ _ 22 rfl 5 i0 (.int .u8 0) 1 1 Try.underlying22 hi0 hz0 hz1 hz2 rfl (by decide) A' (292 * k) c' _ rfl hown6 A6 4 c6 _ rfl RD6.out (bytesV_one _) (by unfold maxLen; omega) (by omega) ?_)
        intro A7 c7 w7 own7 o7 f7
        have HOW7 := Lib.hid (show w7.ownsRow 0 5 1 (.slice A7 (292 * k + 4 + 9 * 0) c7) (292 * k + 4 + 9 * 0) (bytesV (flat (chs ls k ++ chn l 0))) by rw [flat_append, bytesV_append]; exact own7)
        have HO7 := Lib.hid ((HO.out.then o6).trans o7 HF.out)
        have HF7 := Lib.hid (HF.out.trans (HO.out.then o6).size f7)
        clear own7 o7 f7 o6 hown6 HOW HO HF RD6
        go_wp2_with fail
        go_loopw [4, 7] (fun lv iv wr => ∃ i : Nat, i ≤ 32 ∧ iv = .int .i64 (i : Int) ∧ ∃ A' c', lv = .slice A' (292 * k + 4 + 9 * i) c' ∧ Hid (wr.ownsRow 0 5 1 (.slice A' (292 * k + 4 + 9 * i) c') (292 * k + 4 + 9 * i) (bytesV (flat (chs ls k ++ chn l i)))) ∧ Hid (Only [] w wr) ∧ Hid (Fresh w [] (rowFp (.slice A' (292 * k + 4 + 9 * i) c')))) (fun _ iv _ => 32 - (intOf iv).toNat)
        case atStart => exact ⟨0, by omega, rfl, A7, c7, rfl, HOW7, HO7, HF7⟩
        case round =>
          obtain ⟨i, hi, rfl, A8, c8, rfl, HOW8, HO8, HF8⟩ := hrel
          by_cases hi32 : i < 32
          · have hid : (i : Int) < 32 := by omega
            have hmtl := mt_lt l i
            have Hst := Lib.hid (show chs ls k ++ chn l (i + 1) = (chs ls k ++ chn l i) ++ bitsOf (mt l i) 9 by rw [List.append_assoc]; rfl)
            have cl : wr.cell? ⟨b, off + k, none⟩ = some (.slice B l.length cB) := Cls.cell (show Cls w wr from HO8.out) CL0.out
            by_cases hil : i < l.length
            · obtain ⟨x, hx⟩ : ∃ x, l[i]? = some x := ⟨_, List.getElem?_eq_getElem hil⟩
              have hx8 := Hlx.out x (List.mem_of_getElem? hx)
              have hx' : (sV l)[i]? = some (.int .i16 x) := by simp [sV, hx]
              obtain ⟨bB, offB, rfl, hcB⟩ := (RL0.out.then HO8.out).plain (by omega) (by omega)
              have hcx := hcB _ _ hx'
              have hmx : (mt l i : Int) = (x / 2 ^ expo l) % 512 := by unfold mt; rw [List.getD_eq_getElem?_getD, hx]; simp; omega
              have hild : (i : Int) < (l.length : Int) := by omega
              clear hcB hx' hx
              have hmk := i64_and511 (x / 2 ^ expo l)
              rw [← hmx] at hmk
              generalize mt l i = M at hmk hmx Hst hmtl
              clear hmx
              go_wp2_with fail
              refine (refBits_any _ M 9 (by omega) (by omega)).mono ?_
              rintro e w6 ⟨A6, c6, rfl, own6, o6, f6⟩
              have hown6 := own_only HOW8.out o6 (by simp)
              have RD6 := Lib.hid (Reads.of_own own6)
              clear own6 f6
              go_wp2_with (at_builtin; refine wpList_app _ rfl _ _ 22 rfl 5 i0 (.int .u8 0) 1 1 Try.underlying22 hi0 hz0 hz1 hz2 rfl (by decide) A8 (292 * k + 4 + 9 * i) c8 _ rfl hown6 A6 9 c6 _ rfl RD6.out (bytesV_one _) (by unfold maxLen; omega) (by omega) ?_)
              intro A7 c7 w7 own7 o7 f7
              have e9 : 292 * k + 4 + 9 * i + 9 = 292 * k + 4 + 9 * (i + 1) := by omega
              rw [e9] at own7 f7 ⊢
              have HOW7 := Lib.hid (show w7.ownsRow 0 5 1 (.slice A7 (292 * k + 4 + 9 * (i + 1)) c7) (292 * k + 4 + 9 * (i + 1)) (bytesV (flat (chs ls k ++ chn l (i + 1)))) by rw [Hst.out, flat_append, bytesV_append]; exact own7)
              have HO7 := Lib.hid ((HO8.out.then o6).trans o7 HF8.out)
              have HF7 := Lib.hid (HF8.out.trans (HO8.out.then o6).size f7)
              clear own7 o7 f7 o6 hown6 HOW8 HO8 HF8 RD6 e9
              go_wp2_with fail
              go_roundw
              case rel => exact ⟨i + 1, by omega, by go_num, A7, c7, rfl, HOW7, HO7, HF7⟩
              case measure => simp [intOf]; omega
            · have hm0 : mt l i = 0 := by unfold mt; rw [List.getD_eq_getElem?_getD, List.getElem?_eq_none (by omega)]; simp
              have hild : (l.length : Int) ≤ (i : Int) := by omega
              have hmk : bits BinOp.and IntKind.i64 (0 / 2 ^ expo l) 511 = 0 := by rw [Int.zero_ediv]; exact i64_and511 0
              have hmk2 : bits BinOp.and IntKind.i64 0 511 = 0 := i64_and511 0
              rw [hm0] at Hst hmtl
              clear hm0
              have HB0 : ∀ w, Calls Try.prog 51 #[.int .u32 0, .int .i64 9] w fun e w' => ∃ A c, e = .returned (.slice A 9 c) ∧ w'.ownsRow 0 5 1 (.slice A 9 c) 9 (bytesV (flat (bitsOf 0 9))) ∧ Only [] w w' ∧ Fresh w [] (rowFp (.slice A 9 c)) := fun w => refBits_any w 0 9 (by omega) (by omega)
              go_wp2_with fail
              refine (HB0 _).mono ?_
              rintro e w6 ⟨A6, c6, rfl, own6, o6, f6⟩
              have hown6 := own_only HOW8.out o6 (by simp)
              have RD6 := Lib.hid (Reads.of_own own6)
              clear own6 f6
              go_wp2_with (at_builtin; refine wpList_app _ rfl _ _ 22 rfl 5 i0 (.int .u8 0) 1 1 Try.underlying22 hi0 hz0 hz1 hz2 rfl (by decide) A8 (292 * k + 4 + 9 * i) c8 _ rfl hown6 A6 9 c6 _ rfl RD6.out (bytesV_one _) (by unfold maxLen; omega) (by omega) ?_)
              intro A7 c7 w7 own7 o7 f7
              have e9 : 292 * k + 4 + 9 * i + 9 = 292 * k + 4 + 9 * (i + 1) := by omega
              rw [e9] at own7 f7 ⊢
              have HOW7 := Lib.hid (show w7.ownsRow 0 5 1 (.slice A7 (292 * k + 4 + 9 * (i + 1)) c7) (292 * k + 4 + 9 * (i + 1)) (bytesV (flat (chs ls k ++ chn l (i + 1)))) by rw [Hst.out, flat_append, bytesV_append]; exact own7)
              have HO7 := Lib.hid ((HO8.out.then o6).trans o7 HF8.out)
              have HF7 := Lib.hid (HF8.out.trans (HO8.out.then o6).size f7)
              clear own7 o7 f7 o6 hown6 HOW8 HO8 HF8 RD6 e9
              go_wp2_with fail
              go_roundw
              case rel => exact ⟨i + 1, by omega, by go_num, A7, c7, rfl, HOW7, HO7, HF7⟩
              case measure => simp [intOf]; omega
          · have hi' : i = 32 := by omega
            subst hi'
            have e292 : 292 * k + 4 + 9 * 32 = 292 * (k + 1) := by omega
            rw [e292] at HOW8 HF8 ⊢
            have HOWn := Lib.hid (show wr.ownsRow 0 5 1 (.slice A8 (292 * (k + 1)) c8) (292 * (k + 1)) (bytesV (flat (chs ls (k + 1)))) by have := HOW8.out; rw [show chs ls (k + 1) = chs ls k ++ chn l 32 by simp only [chs]; rw [Hgd.out]]; exact this)
            clear e292
            go_wp2_with fail
            go_roundw
            case rel => exact ⟨k + 1, by omega, by go_num, A8, c8, rfl, HOWn, HO8, HF8⟩
            case measure => simp [intOf]; omega
      · have hke : k = ls.length := by omega
        subst hke
        clear hlt
        have HPB := Lib.hid (show PB ls = (sm ([ls.length, l0.length] ++ payload (chs ls ls.length)), 0) by unfold PB; rw [if_pos Hp.out, Hhd.out])
        obtain ⟨b', off', B0, cB0, hA, c0, _, _⟩ := (HP.out.then HO.out).at_ Hl0.out
        injection hA with hA
        injection hA with hA1 hA2
        subst hA1 hA2
        rw [Nat.add_zero] at c0
        have hcl := chs_len ls ls.length
        have hl0p : 1 ≤ l0.length := by have := Hp.out.2; rw [Hhd.out] at this; omega
        have hz : (0 : Int) < (ls.length : Int) := by omega
        generalize chs ls ls.length = bts at HPB HOW hcl
        have hbl : bts.length ≤ 1168 := by omega
        have RDB := Lib.hid (show Reads wr A' 1 bts.length (bytesV (flat bts)) by rw [hcl]; exact Reads.of_own HOW.out)
        have HPX := Lib.hid (show ∀ x ∈ [ls.length, l0.length] ++ payload bts, x < 256 from fun x hx => by
          rcases List.mem_append.1 hx with h | h
          · simp at h; omega
          · exact payload_lt _ x h)
        have fc0 : ∀ w', Cls wr w' → w'.cell? ⟨b, off, none⟩ = some (.slice B0 l0.length cB0) := fun w' h => h.cell c0
        have HCL := Lib.hid hcl
        clear HP HM hn Hp Hall Hhd HOW HF c0 hcl
        go_wp2_with fail
        refine rgnP (Cls wr) [0, 1, 2, 3, 4, 5, 6, 7, 9] 8 10 [(11, false), (12, false), (13, false), (14, false)] _ _ (by kernel_rfl) (by kernel_rfl) rfl rfl Cls.refl ?_
        simp only [pickF, nth, pickL]
        have e1 : IntKind.u8.wrap (ls.length : Int) = (ls.length : Int) := by rw [IntKind.wrap_u8']; omega
        have e2 : IntKind.u8.wrap (l0.length : Int) = (l0.length : Int) := by rw [IntKind.wrap_u8']; omega
        refine fW ?_
        refine mW (.slice (some ⟨b, off, none⟩) ls.length c) rfl rfl (fun w hC K hK => ?_) rfl ?_
        · have fc := fc0 w hC
          go_wp2_with fail
          exact hK
        simp only [Act.put, List.setIfInBounds_toArray, List.set_cons_zero, List.set_cons_succ]
        refine mN ?_
        refine fW ?_
        refine mW (.int .i64 (ls.length : Int)) rfl rfl (fun w hC K hK => ?_) rfl ?_
        · have fc := fc0 w hC
          go_wp2_with fail
          exact hK
        simp only [Act.put, List.setIfInBounds_toArray, List.set_cons_zero, List.set_cons_succ]
        refine mN ?_
        refine fW ?_
        refine mW (.int .u8 (ls.length : Int)) rfl rfl (fun w hC K hK => ?_) rfl ?_
        · have fc := fc0 w hC
          go_wp2_with fail
          exact hK
        simp only [Act.put, List.setIfInBounds_toArray, List.set_cons_zero, List.set_cons_succ]
        refine mN ?_
        refine fW ?_
        refine mW (.slice (some ⟨b, off, none⟩) ls.length c) rfl rfl (fun w hC K hK => ?_) rfl ?_
        · have fc := fc0 w hC
          go_wp2_with fail
          exact hK
        simp only [Act.put, List.setIfInBounds_toArray, List.set_cons_zero, List.set_cons_succ]
        refine mN ?_
        refine fW ?_
        refine mW (.pointer (some ⟨b, off, none⟩)) rfl rfl (fun w hC K hK => ?_) rfl ?_
        · have fc := fc0 w hC
          go_wp2_with fail
          exact hK
        simp only [Act.put, List.setIfInBounds_toArray, List.set_cons_zero, List.set_cons_succ]
        refine mN ?_
        refine fW ?_
        refine mW (.slice B0 l0.length cB0) rfl rfl (fun w hC K hK => ?_) rfl ?_
        · have fc := fc0 w hC
          go_wp2_with fail
          exact hK
        simp only [Act.put, List.setIfInBounds_toArray, List.set_cons_zero, List.set_cons_succ]
        refine mN ?_
        refine fW ?_
        refine mW (.int .i64 (l0.length : Int)) rfl rfl (fun w hC K hK => ?_) rfl ?_
        · have fc := fc0 w hC
          go_wp2_with fail
          exact hK
        simp only [Act.put, List.setIfInBounds_toArray, List.set_cons_zero, List.set_cons_succ]
        refine mN ?_
        refine fW ?_
        refine mW (.int .u8 (l0.length : Int)) rfl rfl (fun w hC K hK => ?_) rfl ?_
        · have fc := fc0 w hC
          go_wp2_with fail
          exact hK
        simp only [Act.put, List.setIfInBounds_toArray, List.set_cons_zero, List.set_cons_succ]
        refine mN ?_
        refine fW ?_
        refine mW (.slice A' (292 * ls.length) c') rfl rfl (fun w hC K hK => ?_) rfl ?_
        · have fc := fc0 w hC
          go_wp2_with fail
          exact hK
        simp only [Act.put, List.setIfInBounds_toArray, List.set_cons_zero, List.set_cons_succ]
        refine mN ?_
        clear fc0 e1 e2
        rw [← HCL.out]
        clear HCL
        refine fN ⟨?_, ?_⟩
        · refine p1 ?_
          go_wp2_with fail
          have HBX := Lib.hid (show Blk (wr.alloc (.cells #[.int .u8 (ls.length : Int), .int .u8 (l0.length : Int)] 5)).drew wr.heap.size 5 (bytesV [ls.length, l0.length]).toArray from Blk.new wr _ _)
          have HCX := Lib.hid (show Only [] wr (wr.alloc (.cells #[.int .u8 (ls.length : Int), .int .u8 (l0.length : Int)] 5)).drew from ((Only.refl [] wr).alloc _).drew)
          refine p1S HCX.out ?_
          generalize (wr.alloc (.cells #[.int .u8 (ls.length : Int), .int .u8 (l0.length : Int)] 5)).drew = wa at HBX HCX ⊢
          obtain ⟨gx, hgx⟩ : ∃ gx, gx = wr.heap.size := ⟨_, rfl⟩
          rw [← hgx] at HBX ⊢
          refine pC (refPayload_any _ A' c' bts (RDB.out.then HCX.out) (by omega)) rfl (fun w => by go_simp; try rfl) ?_
          rintro e w7 ⟨rfl, hb7, o7⟩
          have HC := Lib.hid (show Cls wr w7 from HCX.out.then o7)
          refine ⟨_, rfl, HC.out, ?_⟩
          simp only [Act.put, List.setIfInBounds_toArray, List.set_cons_zero, List.set_cons_succ]
          have RD := Lib.hid (payload_reads hb7)
          have OWN := Lib.hid (own_of_blk (HBX.out.only o7 (by simp)) rfl (by decide) : w7.ownsRow 0 5 1 (.slice (some ⟨gx, 0, none⟩) 2 2) 2 (bytesV [ls.length, l0.length]))
          clear hb7 o7 HBX HCX
          generalize wa.heap.size = gp at RD ⊢
          refine mX ?_
          go_wp2_with (at_builtin; refine wpList_app _ rfl _ _ 22 rfl 5 i0 (.int .u8 0) 1 1 Try.underlying22 hi0 hz0 hz1 hz2 rfl (by decide) (some ⟨gx, 0, none⟩) 2 2 (bytesV [ls.length, l0.length]) rfl OWN.out (some ⟨gp, 0, none⟩) (bts.length / 8 + 1) (bts.length / 8 + 1) (bytesV (payload bts)) rfl RD.out (bytesV_one _) ?c3 ?c4 ?_)
          case c3 => unfold maxLen; omega
          case c4 => omega
          intro A8 c8 w8 own8 o8 f8
          have HC8 := Lib.hid (HC.out.first o8 (fun x hx => by simp [rowFp, Value.ownBlock] at hx; omega))
          have OWN8 := Lib.hid own8
          have hnn : 2 + (bts.length / 8 + 1) = ([ls.length, l0.length] ++ payload bts).length := by rw [List.length_append, payload_length]; rfl
          have RD8 := Lib.hid (show Reads w8 A8 1 ([ls.length, l0.length] ++ payload bts).length (bytesV ([ls.length, l0.length] ++ payload bts)) by rw [← hnn, bytesV_append]; exact Reads.of_own OWN8.out)
          clear own8 o8 f8
          rw [hnn]
          refine mS HC8.out ?_
          refine mC (summed_any _ A8 c8 ([ls.length, l0.length] ++ payload bts) RD8.out HPX.out (by rw [← hnn]; omega)) rfl (fun w => by go_simp; try rfl) ?_
          rintro e w9 ⟨A9, c9, rfl, own9, o9, f9⟩
          have HC9 := Lib.hid (HC8.out.then o9)
          have RD9 := Lib.hid (show Reads w9 A9 1 (sm ([ls.length, l0.length] ++ payload bts)).length (bytesV (sm ([ls.length, l0.length] ++ payload bts))) by rw [sm_len]; exact Reads.of_own own9)
          have hcap9 : (sm ([ls.length, l0.length] ++ payload bts)).length ≤ c9 := by rw [sm_len]; exact own_cap own9
          rw [← sm_len]
          refine ⟨_, rfl, HC9.out, ?_⟩
          clear own9 o9 f9 hnn
          simp only [Act.put, List.setIfInBounds_toArray, List.set_cons_zero, List.set_cons_succ]
          generalize sm ([ls.length, l0.length] ++ payload bts) = pp at HPB RD9 hcap9 ⊢
          refine mX ?_
          go_wp2_with fail
          refine mS HC9.out ?_
          refine mX ?_
          go_wp2_with fail
          refine mS HC9.out ?_
          refine mN ?_
          go_wp2_with fail
          go_ret2
          exact PutC.of HPB.out rfl RD9.out (HO.out.then HC9.out) hcap9
        · refine pC (refPayload_any _ A' c' bts RDB.out.drew (by omega)) rfl (fun w => by go_simp; try rfl) ?_
          rintro e w7 ⟨rfl, hb7, o7⟩
          have o7' : Only [] wr w7 := (Only.refl [] wr).drew.then o7
          refine ⟨_, rfl, o7', ?_⟩
          generalize wr.drew.heap.size = gp at hb7 ⊢
          simp only [Act.put, List.setIfInBounds_toArray, List.set_cons_zero, List.set_cons_succ]
          have hw7 := o7'.size
          refine p1 ?_
          go_wp2_with fail
          have HBX := Lib.hid (show Blk (w7.alloc (.cells #[.int .u8 (ls.length : Int), .int .u8 (l0.length : Int)] 5)) w7.heap.size 5 (bytesV [ls.length, l0.length]).toArray from Blk.new w7 _ _)
          have HC := Lib.hid (show Cls wr (w7.alloc (.cells #[.int .u8 (ls.length : Int), .int .u8 (l0.length : Int)] 5)) from o7'.alloc _)
          have RD := Lib.hid ((payload_reads hb7).alloc (.cells #[.int .u8 (ls.length : Int), .int .u8 (l0.length : Int)] 5))
          refine p1S HC.out ?_
          generalize w7.alloc (.cells #[.int .u8 (ls.length : Int), .int .u8 (l0.length : Int)] 5) = wa at HBX HC RD ⊢
          obtain ⟨gx, hgx⟩ : ∃ gx, gx = w7.heap.size := ⟨_, rfl⟩
          rw [← hgx] at HBX ⊢
          have OWN := Lib.hid (own_of_blk HBX.out rfl (by decide) : wa.ownsRow 0 5 1 (.slice (some ⟨gx, 0, none⟩) 2 2) 2 (bytesV [ls.length, l0.length]))
          clear hb7 o7 HBX o7'
          refine mX ?_
          go_wp2_with (at_builtin; refine wpList_app _ rfl _ _ 22 rfl 5 i0 (.int .u8 0) 1 1 Try.underlying22 hi0 hz0 hz1 hz2 rfl (by decide) (some ⟨gx, 0, none⟩) 2 2 (bytesV [ls.length, l0.length]) rfl OWN.out (some ⟨gp, 0, none⟩) (bts.length / 8 + 1) (bts.length / 8 + 1) (bytesV (payload bts)) rfl RD.out (bytesV_one _) ?c3 ?c4 ?_)
          case c3 => unfold maxLen; omega
          case c4 => omega
          intro A8 c8 w8 own8 o8 f8
          have HC8 := Lib.hid (HC.out.first o8 (fun x hx => by simp [rowFp, Value.ownBlock] at hx; omega))
          have OWN8 := Lib.hid own8
          have hnn : 2 + (bts.length / 8 + 1) = ([ls.length, l0.length] ++ payload bts).length := by rw [List.length_append, payload_length]; rfl
          have RD8 := Lib.hid (show Reads w8 A8 1 ([ls.length, l0.length] ++ payload bts).length (bytesV ([ls.length, l0.length] ++ payload bts)) by rw [← hnn, bytesV_append]; exact Reads.of_own OWN8.out)
          clear own8 o8 f8
          rw [hnn]
          refine mS HC8.out ?_
          refine mC (summed_any _ A8 c8 ([ls.length, l0.length] ++ payload bts) RD8.out HPX.out (by rw [← hnn]; omega)) rfl (fun w => by go_simp; try rfl) ?_
          rintro e w9 ⟨A9, c9, rfl, own9, o9, f9⟩
          have HC9 := Lib.hid (HC8.out.then o9)
          have RD9 := Lib.hid (show Reads w9 A9 1 (sm ([ls.length, l0.length] ++ payload bts)).length (bytesV (sm ([ls.length, l0.length] ++ payload bts))) by rw [sm_len]; exact Reads.of_own own9)
          have hcap9 : (sm ([ls.length, l0.length] ++ payload bts)).length ≤ c9 := by rw [sm_len]; exact own_cap own9
          rw [← sm_len]
          refine ⟨_, rfl, HC9.out, ?_⟩
          clear own9 o9 f9 hnn
          simp only [Act.put, List.setIfInBounds_toArray, List.set_cons_zero, List.set_cons_succ]
          generalize sm ([ls.length, l0.length] ++ payload bts) = pp at HPB RD9 hcap9 ⊢
          refine mX ?_
          go_wp2_with fail
          refine mS HC9.out ?_
          refine mX ?_
          go_wp2_with fail
          refine mS HC9.out ?_
          refine mN ?_
          go_wp2_with fail
          go_ret2
          exact PutC.of HPB.out rfl RD9.out (HO.out.then HC9.out) hcap9
end Go.Proofs.Ytmojlfgfaabegaa
