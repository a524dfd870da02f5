/- Proved: BlockBack returns true for all its arguments, which read afterwards as before. No condition. -/
import Derived.Test.YtkojnmphgdlmdaaB13
import Derived.Test.YtkojnmphgdlmdaaRow
namespace Go.Proofs.Ytkojnmphgdlmdaa.blockBack
open Go.ChangeShapes Go.WideShapes Go.ChangeAt Go.RowKit bt

theorem equal64 (x : Nat → Int) (w : World) : (Op.equal 23 (.agg (arr .i64 64 x)) (.agg (arr .i64 64 x))).run Try.prog w = .ok true w := by
  have h : (Try.prog.info? 3).isSome = true := by kernel_rfl
  obtain ⟨i, hi⟩ := Option.isSome_iff_exists.1 h
  have h1 := run_eql_arr w 23 3 .i64 64 i x x Try.underlying23 Try.underlying3 hi (by kernel_rfl)
  rw [eqTo_of (fun _ _ => rfl)] at h1
  unfold binOp at h1
  simp only [Sem.run_bind] at h1
  generalize (Op.equal 23 (.agg (arr .i64 64 x)) (.agg (arr .i64 64 x))).run Try.prog w = r at h1 ⊢
  cases r with
  | ok v w' => simp [Result.andThen] at h1; obtain ⟨rfl, rfl⟩ := h1; rfl
  | halt a b => simp [Result.andThen] at h1
theorem neqx (x : Nat → Int) (w : World) : (binOp .neq 23 (.agg (arr .i64 64 x)) (.agg (arr .i64 64 x))).run Try.prog w = .ok (.bool false) w := by
  have := equal64 x w
  unfold binOp
  simp only [Sem.run_bind, this, Result.andThen_ok]
  rfl
theorem levels_n (w : World) (A : Option Addr) (c : Nat) (l : List Int) (n : Nat) (hn : n = l.length) (hr : Reads w A 1 n (l.map (Value.int .i64))) (hm : l.length ≤ maxLen) :
    Calls Try.prog 7 #[.slice A n c] w fun e w' => e = .returned (.agg (arr .i64 64 (blockOf l))) ∧ Only [] w w' := by
  subst hn
  exact levels_any w A c l hr hm
set_option maxRecDepth 100000 in
set_option maxHeartbeats 8000000 in
theorem walk (w : World) (A : Option Addr) (c : Nat) (l : List Int) (hr : Reads w A 1 l.length (l.map (Value.int .i64))) (hcl : l.length ≤ c) (_hm : l.length ≤ maxLen) (_hb : ∀ z ∈ l, -9223372036854775808 ≤ z ∧ z ≤ 9223372036854775807)
    (B : Option Addr) (d : Nat) (t : List Int) (hr' : Reads w B 1 t.length (t.map (Value.int .i64))) (_hm' : t.length ≤ maxLen) (_hb' : ∀ z ∈ t, -9223372036854775808 ≤ z ∧ z ≤ 9223372036854775807) :
    Calls Try.prog 5 #[.slice A l.length c, .slice B t.length d] w fun e w' => e = .returned (.bool true) ∧ Only [] w w' := by
  have Hr := Lib.hid hr
  have Hr' := Lib.hid hr'
  clear hr hr' _hb _hb'
  go_enter Try.func5, Try.ntmps5
  by_cases hn : l.length ≤ 640
  · have hd0 : decide ((640 : Int) < (l.length : Int)) = false := decide_eq_false (by omega)
    by_cases hn' : t.length ≤ 10
    · have hd1 : decide ((10 : Int) < (t.length : Int)) = false := decide_eq_false (by omega)
      go_wp2_with fail
      clear hd0 hd1
      refine (newWriter_any _).mono ?_
      rintro e w1 ⟨rfl, hw1, o1⟩
      generalize hG : w.heap.size = gw at hw1 ⊢
      have hgw : w.heap.size ≤ gw := by omega
      have HW1 := Lib.hid hw1
      have HO1 := Lib.hid o1
      clear hw1 o1 hG
      go_wp2_with fail
      go_loopw [6, 7] (fun s i wr => ∃ k : Nat, k ≤ t.length ∧ i = .int .i64 (k : Int) ∧ s = .int .i64 ((wto l t k).length : Int) ∧ Hid (∀ i, i < k → pErr (xb l i) (t.getD i 0) = 0) ∧ ∃ F, Hid (WriterIs wr gw F (wto l t k)) ∧ Hid (∀ x ∈ F, w.heap.size ≤ x) ∧ Hid (Only [] w wr)) (fun _ i _ => t.length - (intOf i).toNat)
      case atStart => exact ⟨0, Nat.zero_le _, rfl, rfl, Lib.hid (fun i h => by omega), [gw], HW1, Lib.hid (by simpa using hgw), HO1⟩
      case round =>
        obtain ⟨k, hk, rfl, rfl, HA, F, HW, HF, HO⟩ := hrel
        have hwl := wto_le l t k
        by_cases hlt : k < t.length
        · obtain ⟨z, hz⟩ : ∃ z, t[k]? = some z := ⟨_, List.getElem?_eq_getElem hlt⟩
          have hz' : (t.map (Value.int .i64))[k]? = some (.int .i64 z) := by simp [hz]
          have hgd : t.getD k 0 = z := by rw [List.getD_eq_getElem?_getD, hz]; rfl
          have hbw0 := Hr'.out.lt (by omega) (by omega)
          obtain ⟨b', off, rfl, hc⟩ := (Hr'.out.then HO.out).plain (by omega) (by omega)
          have hcz := hc _ _ hz'
          have hbw : b' < w.heap.size := hbw0 _ rfl
          have hki : (k : Int) < (t.length : Int) := by omega
          have Hgd := Lib.hid hgd
          obtain ⟨J, hJ⟩ : ∃ J, J = min (64 * k) l.length := ⟨_, rfl⟩
          have hJl : J ≤ l.length := by omega
          clear hc hz' hz hgd hbw0
          have hcut := Reads.cut (k := J) (cap := c) (Hr.out.then HO.out) (by omega) hcl
          rw [Nat.mul_one, ← List.map_drop] at hcut
          have hmd : (if (l.length : Int) < 64 * (k : Int) then (l.length : Int) else 64 * (k : Int)) = (J : Int) := by rw [hJ]; split <;> omega
          have Hmd := Lib.hid hmd
          have HX := Lib.hid (show blockOf (l.drop J) = xb l k by unfold xb; rw [hJ])
          have Hn2 := Lib.hid (show l.length - J = (l.drop J).length by simp)
          have Hcut := Lib.hid hcut
          clear hcut hJ hmd
          have tokm : True := trivial
          have toks : True := trivial
          go_wp2_with (first | (clear tokm; refine arm_min (64 * (k : Int)) (l.length : Int) (J : Int) Hmd.out rfl rfl rfl rfl ?_) | (clear toks; refine arm_rest (j := J) (by omega) rfl rfl rfl rfl ?_; rw [Nat.mul_one]; generalize (if c = J then A else Option.map (fun x => x.add J) A) = A9 at Hcut ⊢; generalize l.length - J = n9 at Hcut Hn2 ⊢; generalize c - J = c9))
          refine (levels_n _ A9 c9 (l.drop J) n9 Hn2.out Hcut.out (by unfold maxLen; simp; omega)).mono ?_
          rw [HX.out]
          rintro e w2 ⟨rfl, o2⟩
          have hcz2 : w2.cell? ⟨b', off + k, none⟩ = some (.int .i64 z) := (o2.cell (p := ⟨b', off + k, none⟩) (World.block_lt_of_cell? _ _ hcz) (by simp)).trans hcz
          have HW2 := Lib.hid (writer_keep HW.out o2)
          have HO2 := Lib.hid (HO.out.then o2)
          clear o2 hcz HW HO Hcut
          have tok : True := trivial
          have tok2 : True := trivial
          go_wp2_with (first | (clear tok; refine al64 rfl rfl ?_; rintro g3 w3 b3 o3 l3) | (clear tok2; refine sr64 (y := xb l k) b3 rfl rfl rfl rfl ?_; rintro w4 b4 o4 l4))
          have o24 := Only.own o3 o4 l3
          have hcz4 : w4.cell? ⟨b', off + k, none⟩ = some (.int .i64 z) := (o24.cell (p := ⟨b', off + k, none⟩) (World.block_lt_of_cell? _ _ hcz2) (by simp)).trans hcz2
          have HW4 := Lib.hid (writer_keep HW2.out o24)
          have HO4 := Lib.hid (HO2.out.then o24)
          have hg3F : g3 ∉ F := fun h => by have := writer_lt HW2.out g3 h; omega
          have Hg3F := Lib.hid hg3F
          have f4 : ∀ w', Cls w4 w' → w'.cell? ⟨b', off + k, none⟩ = some (.int .i64 z) := fun w' h => h.cell hcz4
          clear o3 o4 b3 hcz2 HW2 HO2 o24 hg3F
          refine rgnT (Cls w4) 6 (by kernel_rfl) (by kernel_rfl) Cls.refl ?_
          simp only [List.take_succ_cons, List.take_zero, List.drop_succ_cons, List.drop_zero]
          iterate 1 (first | (refine qU rfl ?_; simp only [Act.put, List.setIfInBounds_toArray, List.set_cons_zero, List.set_cons_succ]) | (refine qW ?_ rfl rfl (fun w hC K hK => ?_) ?_; rotate_left; (focus ((go_wp2_with fail) <;> exact hK _ hC)); simp only [Act.put, List.setIfInBounds_toArray, List.set_cons_zero, List.set_cons_succ]))
          refine qR _ rfl rfl rfl (fun w hC => hC.blk b4) Try.underlying23 rfl (info_of_arr _) ?_
          simp only [Act.put, List.setIfInBounds_toArray, List.set_cons_zero, List.set_cons_succ]
          repeat (first | (refine qU rfl ?_; simp only [Act.put, List.setIfInBounds_toArray, List.set_cons_zero, List.set_cons_succ]) | (refine qW ?_ rfl rfl (fun w hC K hK => ?_) ?_; rotate_left; (focus ((go_wp2_with fail) <;> exact hK _ hC)); simp only [Act.put, List.setIfInBounds_toArray, List.set_cons_zero, List.set_cons_succ]))
          refine qN ?_
          intro w' hw'
          have b5 := b4.only hw'.only (by simp)
          have HW5 := Lib.hid (writer_keep HW4.out hw'.only)
          have HO5 := Lib.hid (HO4.out.then hw'.only)
          have hcz5 := f4 _ hw'
          clear hw' b4 HW4 HO4 f4 hcz4
          go_wp2_with fail
          refine (bput_any _ gw F _ (xb l k) z HW5.out (by omega)).mono ?_
          rintro e w6 ⟨rfl, F6, hw6, o6, f6⟩
          have b6 := b5.only o6 Hg3F.out
          have hbF : b' ∉ F := fun h => by have := HF.out b' h; omega
          have hcz6 : w6.cell? ⟨b', off + k, none⟩ = some (.int .i64 z) := (o6.cell (p := ⟨b', off + k, none⟩) (World.block_lt_of_cell? _ _ hcz5) hbF).trans hcz5
          have HO6 := Lib.hid (HO5.out.first o6 (fun x hx => HF.out x hx))
          have hF6 : ∀ x ∈ F6, w.heap.size ≤ x := fun x hx => by
            rcases f6 x hx with h | h
            · exact HF.out x h
            · have := HO5.out.size; omega
          have HF6 := Lib.hid hF6
          have hwe : wto l t (k + 1) = wto l t k ++ bOut (xb l k) z := by rw [← Hgd.out]; rfl
          rw [← hwe] at hw6
          have HW6 := Lib.hid hw6
          have hwl2 := wto_le l t (k + 1)
          have hlen : ((wto l t (k + 1)).length : Int) = ((wto l t k).length : Int) + ((bOut (xb l k) z).length : Int) := by rw [hwe, List.length_append]; omega
          have hbl := bOut_le (xb l k) z
          have f6' : ∀ w', Cls w6 w' → w'.cell? ⟨b', off + k, none⟩ = some (.int .i64 z) := fun w' h => h.cell hcz6
          have Hlen := Lib.hid hlen
          clear hw6 o6 f6 b5 hbF HW5 HO5 hF6 hwe hcz5 hcz6 HF hlen Hg3F
          go_wp2_with fail
          refine rgn (Cls w6) (by kernel_rfl) (by kernel_rfl) Cls.refl ?_
          iterate 1 (first | (refine qU rfl ?_; simp only [Act.put, List.setIfInBounds_toArray, List.set_cons_zero, List.set_cons_succ]) | (refine qW ?_ rfl rfl (fun w hC K hK => ?_) ?_; rotate_left; (focus ((go_wp2_with fail) <;> exact hK _ hC)); simp only [Act.put, List.setIfInBounds_toArray, List.set_cons_zero, List.set_cons_succ]))
          refine qR _ rfl rfl rfl (fun w hC => hC.blk b6) Try.underlying23 rfl (info_of_arr _) ?_
          simp only [Act.put, List.setIfInBounds_toArray, List.set_cons_zero, List.set_cons_succ]
          iterate 4 (first | (refine qU rfl ?_; simp only [Act.put, List.setIfInBounds_toArray, List.set_cons_zero, List.set_cons_succ]) | (refine qW ?_ rfl rfl (fun w hC K hK => ?_) ?_; rotate_left; (focus ((go_wp2_with fail) <;> exact hK _ hC)); simp only [Act.put, List.setIfInBounds_toArray, List.set_cons_zero, List.set_cons_succ]))
          refine qC (fun w hC => Calls.cls hC (bbits_any w (xb l k) z)) rfl (fun w => ?_) ?_
          · go_simp; try rfl
          simp only [Act.put, List.setIfInBounds_toArray, List.set_cons_zero, List.set_cons_succ]
          repeat (first | (refine qU rfl ?_; simp only [Act.put, List.setIfInBounds_toArray, List.set_cons_zero, List.set_cons_succ]) | (refine qW ?_ rfl rfl (fun w hC K hK => ?_) ?_; rotate_left; (focus ((go_wp2_with fail) <;> exact hK _ hC)); simp only [Act.put, List.setIfInBounds_toArray, List.set_cons_zero, List.set_cons_succ]))
          refine qN ?_
          intro w' hw'
          have HW7 := Lib.hid (writer_keep HW6.out hw'.only)
          have HO7 := Lib.hid (HO6.out.then hw'.only)
          clear HW6 HO6 f6' hw' b6
          rw [← Hlen.out]
          generalize hPE : pErr (xb l k) z = pe
          have hpc := pErr_case (xb l k) z
          rw [hPE] at hpc
          have HPE := Lib.hid hPE
          clear hPE
          go_wp2_with fail
          refine (len_any _ gw F6 _ HW7.out).mono ?_
          rintro e w8 ⟨rfl, rfl⟩
          rcases hpc with rfl | hpc
          · have hA2 : ∀ i, i < k + 1 → pErr (xb l i) (t.getD i 0) = 0 := fun i hi => by
              by_cases h : i = k
              · subst h; rw [Hgd.out]; exact HPE.out
              · exact HA.out i (by omega)
            have HA2 := Lib.hid hA2
            clear hA2
            go_wp2_with fail
            go_roundw
            case rel => exact ⟨k + 1, by omega, by go_num, rfl, HA2, F6, HW7, HF6, HO7⟩
            case measure => simp [intOf]; omega
          · have hpn : (pe != 0) = true := by rcases hpc with rfl | rfl <;> rfl
            go_wp2_with fail
            refine (awake_any _).mono ?_
            rintro e w9 ⟨rfl, o9⟩
            rcases hpc with rfl | rfl
            · go_wp2_with fail
              go_ret
              exact ⟨rfl, HO7.out.then o9⟩
            · go_wp2_with fail
              go_ret
              exact ⟨rfl, HO7.out.then o9⟩
        · have hke : k = t.length := by omega
          subst hke
          clear hlt
          go_wp2_with fail
          refine (payload_any _ _ _ _ HW.out (by omega)).mono ?_
          rintro e w2 ⟨rfl, hp2, o2⟩
          have Hp2 := Lib.hid (payload_reads hp2)
          have HO2 := Lib.hid (HO.out.then o2)
          clear hp2 o2 HO HW
          go_wp2_with fail
          refine (newReader_payload _ _ _ (wto l t t.length) Hp2.out (by omega)).mono ?_
          rintro e w3 ⟨rfl, hr3, o3⟩
          generalize hG3 : w2.heap.size + 1 = gr at hr3
          generalize hW3 : w2.heap.size = wb at hr3 hG3
          have hs2 : w.heap.size ≤ wb := by have := HO2.out.size; omega
          have hgr : w.heap.size ≤ gr := by omega
          have HR3 := Lib.hid hr3
          have HO3 := Lib.hid (HO2.out.then o3)
          clear hr3 o3 HO2 Hp2 hW3 hG3
          go_wp2_with fail
          go_loopw [12] (fun i wr => ∃ k : Nat, k ≤ t.length ∧ i = .int .i64 (k : Int) ∧ Hid (ReaderIs wr gr wb (payload (wto l t t.length)) (wto l t t.length).length (wto l t k).length) ∧ Hid (Only [] w wr)) (fun i _ => t.length - (intOf i).toNat)
          case atStart => exact ⟨0, Nat.zero_le _, rfl, HR3, HO3⟩
          case round =>
            obtain ⟨k, hk2, rfl, HRk, HOk⟩ := hrel
            by_cases hlt : k < t.length
            · obtain ⟨z, hz⟩ : ∃ z, t[k]? = some z := ⟨_, List.getElem?_eq_getElem hlt⟩
              have hz' : (t.map (Value.int .i64))[k]? = some (.int .i64 z) := by simp [hz]
              have hgd : t.getD k 0 = z := by rw [List.getD_eq_getElem?_getD, hz]; rfl
              have hbw0 := Hr'.out.lt (by omega) (by omega)
              obtain ⟨b', off, rfl, hc⟩ := (Hr'.out.then HOk.out).plain (by omega) (by omega)
              have hcz := hc _ _ hz'
              have hbw : b' < w.heap.size := hbw0 _ rfl
              have hki : (k : Int) < (t.length : Int) := by omega
              have hp0 := HA.out k hlt
              rw [hgd] at hp0
              obtain ⟨rest, hrest⟩ := wto_drop l t hlt
              rw [hgd] at hrest
              obtain ⟨q1, q2, q3⟩ := backL hp0 rest
              rw [← hrest] at q1 q2 q3
              have hwe : (wto l t (k + 1)).length = (wto l t k).length + (bOut (xb l k) z).length := by simp only [wto]; rw [hgd, List.length_append]
              obtain ⟨R, hR⟩ : ∃ R, TR z ((wto l t t.length).drop (wto l t k).length) = R := ⟨_, rfl⟩
              rw [hR] at q1 q2 q3
              rw [← q2] at hwe
              have HR := Lib.hid hR
              have Q1 := Lib.hid q1
              have Q3 := Lib.hid q3
              have HWE := Lib.hid hwe
              obtain ⟨J, hJ⟩ : ∃ J, J = min (64 * k) l.length := ⟨_, rfl⟩
              have hJl : J ≤ l.length := by omega
              clear hc hz' hz hgd hbw0 hp0 hrest q1 q2 q3 hR hwe
              have hcut := Reads.cut (k := J) (cap := c) (Hr.out.then HOk.out) (by omega) hcl
              rw [Nat.mul_one, ← List.map_drop] at hcut
              have hmd : (if (l.length : Int) < 64 * (k : Int) then (l.length : Int) else 64 * (k : Int)) = (J : Int) := by rw [hJ]; split <;> omega
              have Hmd := Lib.hid hmd
              have HX := Lib.hid (show blockOf (l.drop J) = xb l k by unfold xb; rw [hJ])
              have Hn2 := Lib.hid (show l.length - J = (l.drop J).length by simp)
              have Hcut := Lib.hid hcut
              clear hcut hJ hmd
              have tokm : True := trivial
              have toks : True := trivial
              go_wp2_with (first | (clear tokm; refine arm_min (64 * (k : Int)) (l.length : Int) (J : Int) Hmd.out rfl rfl rfl rfl ?_) | (clear toks; refine arm_rest (j := J) (by omega) rfl rfl rfl rfl ?_; rw [Nat.mul_one]; generalize (if c = J then A else Option.map (fun x => x.add J) A) = A9 at Hcut ⊢; generalize l.length - J = n9 at Hcut Hn2 ⊢; generalize c - J = c9))
              refine (levels_n _ A9 c9 (l.drop J) n9 Hn2.out Hcut.out (by unfold maxLen; simp; omega)).mono ?_
              rw [HX.out]
              rintro e w4 ⟨rfl, o4⟩
              have hcz4 : w4.cell? ⟨b', off + k, none⟩ = some (.int .i64 z) := (o4.cell (p := ⟨b', off + k, none⟩) (World.block_lt_of_cell? _ _ hcz) (by simp)).trans hcz
              have HR4 := Lib.hid (HRk.out.only o4 (by simp) (by simp))
              have HO4 := Lib.hid (HOk.out.then o4)
              clear o4 hcz HRk HOk Hcut
              have hx' : ∃ x', arr .i64 64 R.2.1 = arr .i64 64 x' ∧ ((z = 1 ∧ x' = upd (xb l k) 0 0) ∨ ((z == 1) = false ∧ x' = xb l k)) := by
                by_cases hz1 : z = 1
                · refine ⟨_, arr_congr fun j hj => ?_, .inl ⟨hz1, rfl⟩⟩
                  rw [Q3.out j hj]
                  unfold upd
                  by_cases hj0 : j = 0
                  · rw [if_pos ⟨hz1, hj0⟩, if_pos hj0]
                  · rw [if_neg (by omega), if_neg hj0]
                · refine ⟨_, arr_congr fun j hj => ?_, .inr ⟨by simpa using hz1, rfl⟩⟩
                  rw [Q3.out j hj, if_neg (by omega)]
              obtain ⟨x', hxa, hxc⟩ := hx'
              have HXA := Lib.hid hxa
              clear hxa
              rcases hxc with ⟨rfl, rfl⟩ | ⟨hz1, rfl⟩
              · have tok : True := trivial
                have tok2 : True := trivial
                go_wp2_with (first | (clear tok; refine al64 rfl rfl ?_; rintro g5 w5 b5 o5 l5) | (clear tok2; refine sr64 (y := xb l k) b5 rfl rfl rfl rfl ?_; rintro w6 b6 o6 l6; have o46 := Only.own o5 o6 l5; have hcz6 : w6.cell? ⟨b', off + k, none⟩ = some (.int .i64 1) := (o46.cell (p := ⟨b', off + k, none⟩) (World.block_lt_of_cell? _ _ hcz4) (by simp)).trans hcz4; have c0 := b6.cell 0; rw [arr_get (by omega)] at c0; have z0 := b6.frozen 0; obtain ⟨s1, s2⟩ := b6.set1 0 (.int .i64 0); rw [arr_set 0 (by omega)] at s1; have hcz7 : (w6.setCell ⟨g5, 0, none⟩ (.int .i64 0)).cell? ⟨b', off + k, none⟩ = some (.int .i64 1) := (s2.cell (p := ⟨b', off + k, none⟩) (World.block_lt_of_cell? _ _ hcz6) (by simp; have := HO4.out.size; omega)).trans hcz6; have S1 := Lib.hid s1; have S2 := Lib.hid s2; clear s1 s2))
                have o47 := Only.own o5 (o6.trans S2.out (Fresh.refl _ _)) l5
                have HR7 := Lib.hid (HR4.out.only o47 (by simp) (by simp))
                have HO7 := Lib.hid (HO4.out.then o47)
                have b7 := S1.out
                clear b5 b6 o5 o6 c0 z0 S1 S2 hcz4 hcz6 hcz7 o46 HO4
                have hg5 : w4.heap.size ≤ g5 := l5
                have hgr4 : gr < w4.heap.size := HR4.out.1.lt
                refine (btake_any _ gr wb (payload (wto l t t.length)) (wto l t t.length).length (wto l t k).length HR7.out 1 R (by rw [bitsIn_payload]; exact HR.out)).mono ?_
                rintro e w8 ⟨hcase, o8⟩
                rcases hcase with ⟨_, rfl, hRd⟩ | ⟨hR0, _, _⟩
                · rw [← HWE.out] at hRd
                  rw [HXA.out]
                  have b8 := b7.only o8 (by simp; omega)
                  have HR8 := Lib.hid hRd
                  have HO8 := Lib.hid (HO7.out.first o8 (by simp; omega))
                  have hnq := neqx (upd (xb l k) 0 0)
                  clear o8 hRd b7 HR7 HO7 o47
                  have tok : True := trivial
                  have tok2 : True := trivial
                  have tok3 : True := trivial
                  have tok4 : True := trivial
                  go_wp2_with (first | (clear tok; refine al64 rfl rfl ?_; rintro g9 w9 b9 o9 l9) | (clear tok2; refine sr64 (y := upd (xb l k) 0 0) b9 rfl rfl rfl rfl ?_; rintro w10 b10 o10 l10; have o810 := Only.own o9 o10 l9; have bx10 := b8.only o810 (by simp)) | (clear tok3; refine gld64 (x := upd (xb l k) 0 0) bx10 rfl rfl rfl ?_) | (clear tok4; refine gld64 (x := upd (xb l k) 0 0) b10 rfl rfl rfl ?_))
                  have HR10 := Lib.hid (HR8.out.only o810 (by simp) (by simp))
                  have HO10 := Lib.hid (HO8.out.then o810)
                  clear hnq o9 o10 b9 b8 bx10 b10 o810 HR8 HO8
                  go_roundw
                  case rel => exact ⟨k + 1, by omega, by go_num, HR10, HO10⟩
                  case measure => simp [intOf]; omega
                · exact absurd Q1.out hR0
              · have tok : True := trivial
                have tok2 : True := trivial
                go_wp2_with (first | (clear tok; refine al64 rfl rfl ?_; rintro g5 w5 b5 o5 l5) | (clear tok2; refine sr64 (y := xb l k) b5 rfl rfl rfl rfl ?_; rintro w6 b6 o6 l6; have o47 := Only.own o5 o6 l5; have hcz6 : w6.cell? ⟨b', off + k, none⟩ = some (.int .i64 z) := (o47.cell (p := ⟨b', off + k, none⟩) (World.block_lt_of_cell? _ _ hcz4) (by simp)).trans hcz4))
                have HR7 := Lib.hid (HR4.out.only o47 (by simp) (by simp))
                have HO7 := Lib.hid (HO4.out.then o47)
                have b7 := b6
                clear b5 b6 o5 o6 hcz4 hcz6 HO4
                have hg5 : w4.heap.size ≤ g5 := l5
                have hgr4 : gr < w4.heap.size := HR4.out.1.lt
                refine (btake_any _ gr wb (payload (wto l t t.length)) (wto l t t.length).length (wto l t k).length HR7.out z R (by rw [bitsIn_payload]; exact HR.out)).mono ?_
                rintro e w8 ⟨hcase, o8⟩
                rcases hcase with ⟨_, rfl, hRd⟩ | ⟨hR0, _, _⟩
                · rw [← HWE.out] at hRd
                  rw [HXA.out]
                  have b8 := b7.only o8 (by simp; omega)
                  have HR8 := Lib.hid hRd
                  have HO8 := Lib.hid (HO7.out.first o8 (by simp; omega))
                  have hnq := neqx (xb l k)
                  clear o8 hRd b7 HR7 HO7 o47
                  have tok : True := trivial
                  have tok2 : True := trivial
                  have tok3 : True := trivial
                  have tok4 : True := trivial
                  go_wp2_with (first | (clear tok; refine al64 rfl rfl ?_; rintro g9 w9 b9 o9 l9) | (clear tok2; refine sr64 (y := xb l k) b9 rfl rfl rfl rfl ?_; rintro w10 b10 o10 l10; have o810 := Only.own o9 o10 l9; have bx10 := b8.only o810 (by simp)) | (clear tok3; refine gld64 (x := xb l k) bx10 rfl rfl rfl ?_) | (clear tok4; refine gld64 (x := xb l k) b10 rfl rfl rfl ?_))
                  have HR10 := Lib.hid (HR8.out.only o810 (by simp) (by simp))
                  have HO10 := Lib.hid (HO8.out.then o810)
                  clear hnq o9 o10 b9 b8 bx10 b10 o810 HR8 HO8
                  go_roundw
                  case rel => exact ⟨k + 1, by omega, by go_num, HR10, HO10⟩
                  case measure => simp [intOf]; omega
                · exact absurd Q1.out hR0
            · have hke : k = t.length := by omega
              subst hke
              clear hlt
              go_wp2_with fail
              refine (awake_any _).mono ?_
              rintro e w5 ⟨rfl, o5⟩
              have HR5 := Lib.hid (HRk.out.only o5 (by simp) (by simp))
              go_wp2_with fail
              refine (left_any _ _ _ _ _ _ HR5.out).mono ?_
              rintro e w6 ⟨rfl, rfl⟩
              rw [Int.sub_self]
              go_wp2_with fail
              go_ret
              exact ⟨rfl, (HOk.out.then o5).drew⟩
    · have hd1 : decide ((10 : Int) < (t.length : Int)) = true := decide_eq_true (by omega)
      go_wp2_with fail
      go_ret
      exact ⟨rfl, Only.refl _ _⟩
  · have hd0 : decide ((640 : Int) < (l.length : Int)) = true := decide_eq_true (by omega)
    go_wp2_with fail
    go_ret
    exact ⟨rfl, Only.refl _ _⟩
end Go.Proofs.Ytkojnmphgdlmdaa.blockBack
