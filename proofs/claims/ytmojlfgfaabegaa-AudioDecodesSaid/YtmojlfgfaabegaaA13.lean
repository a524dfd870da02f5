/- The reference's TakeBlock. -/
import Derived.Test.YtmojlfgfaabegaaA12
namespace Go.Proofs.Ytmojlfgfaabegaa
open Go.RowKit bt

section
variable {ops : Array Oper} {rest : List Oper} {o : Oper} {a : Act} {w : World} {Q : Exit → Act → World → Prop} {X Y Z : Operand}
theorem run_front {t e : TypeId} (ht : Try.prog.underlying t = some (.slice e)) (hs : (Try.prog.info? e).map (·.size) = some 1) (w : World) (A : Option Addr) (n c m : Nat) (h2 : m ≤ c) :
    (Instr.sliceAt t (.slice A n c) none (some (.int .i64 (m : Int))) none).run Try.prog w = .ok (.slice A m c) w := by
  have hb2 := run_sliceBound (P := Try.prog) (w := w) .i64 (m : Int) c .sliceAcap (by omega) (by omega)
  obtain ⟨i, hi, _⟩ := info_one hs
  simp [Instr.sliceAt, Instr.slice, run_underlying ht, Instr.sliceBounds, sizeOf, typeInfo, hi, hb2]
  intro hc0
  cases A <;> simp [Addr.add]
theorem arm_front {t e : TypeId} (ht : Try.prog.underlying t = some (.slice e)) (hs : (Try.prog.info? e).map (·.size) = some 1) {A : Option Addr} {n c : Nat} (m : Nat) (h2 : m ≤ c) (hgd : o.guard = none) (ho : o.op = .slice t X none (some Z) none) (hx : a.eval X = .slice A n c)
    (hz : a.eval Z = .int .i64 (m : Int))
    (k : wpList Try.prog ops Q rest (a.put o.dst (.slice A m c)) w) : wpList Try.prog ops Q (o :: rest) a w := by
  refine wpList_plain hgd fun K hK => ?_
  unfold Oper.wp execOp
  simp only [ho, Option.map_some, Option.map_none, hx, hz, Sem.run_bind, run_front ht hs w A n c m h2, Result.andThen_ok]
  exact hK _ _ k
end
theorem refTake_ok (w : World) (g b c : Nat) (l : List Bool) (at_ k : Nat) (h : RefIs w g b c l at_) (hk : k ≤ 32) (hl : at_ + k ≤ l.length) :
    Calls Try.prog 40 #[.pointer (some ⟨g, 0, none⟩), .int .i64 (k : Int)] w fun e w' => e = .returned (.tuple #[.int .u32 (fld l at_ k : Int), .int .i64 0]) ∧ RefIs w' g b c l (at_ + k) ∧ Only [g] w w' := by
  have he : takeErr l.length at_ (k : Int) = 0 := by unfold takeErr; rw [if_neg (by omega), if_neg (by simp; omega)]
  refine (refTake_any w g b c l at_ (k : Int) h).mono ?_
  rintro e w' ⟨h1, h2, h3⟩
  unfold takeVal at h1
  unfold takeAt at h2
  rw [he] at h1 h2
  simp only [if_true, Int.toNat_natCast] at h1 h2
  exact ⟨h1, h2, h3⟩
theorem rowN_step (bs : List Bool) (i k : Nat) : sV (rowN bs (i + 1) k) = sV (rowN bs i k) ++ [.int .i16 (smp bs k i)] := by
  unfold rowN sV
  rw [List.range_succ, List.map_append, List.map_append]
  rfl
theorem rowsV_snoc {hs : List (Option Addr × Nat)} {ls : List (List Int)} (h : hs.length = ls.length) (x : Option Addr × Nat) (l : List Int) : rowsV (hs ++ [x]) (ls ++ [l]) = rowsV hs ls ++ [.slice x.1 l.length x.2] := by
  unfold rowsV
  rw [List.zipWith_append h]
  rfl
theorem fld_lt (bs : List Bool) (i k : Nat) (h : i + k ≤ bs.length) : fld bs i k < 2 ^ k := by
  have := num_lt (window bs i k)
  rw [window_length _ _ _ h] at this
  exact this
theorem sum_same {p : List Nat} (h : 2 ≤ p.length) (hp : ∀ x ∈ p, x < 256) : (p = sm (p.take (p.length - 2))) ↔ crc (p.take (p.length - 2)) = p.getD (p.length - 2) 0 * 256 + p.getD (p.length - 1) 0 := by
  obtain ⟨q, u, v, hpq, hqt⟩ := two_last h
  have hql : p.length = q.length + 2 := by rw [hpq]; simp
  have hu : p.getD (p.length - 2) 0 = u := by rw [hql, hpq]; simp
  have hv : p.getD (p.length - 1) 0 = v := by rw [hql, hpq]; simp
  rw [hu, hv, ← hqt]
  have hu8 : u < 256 := hp u (by rw [hpq]; simp)
  have hv8 : v < 256 := hp v (by rw [hpq]; simp)
  have hc := crc_lt q
  rw [hpq]
  unfold sm
  rw [List.append_cancel_left_eq]
  simp
  omega
set_option maxRecDepth 100000 in
set_option maxHeartbeats 4000000 in
theorem refTakeBlock_any (w : World) (A : Option Addr) (c : Nat) (p : List Nat) (hr : Reads w A 1 p.length (bytesV p)) (hc : p.length ≤ c) (hp : ∀ x ∈ p, x < 256) (hl : p.length ≤ 1000000000) :
    Calls Try.prog 18 #[.slice A p.length c] w (TakC p w) := by
  obtain ⟨i0, hi0, hz0, hz1, hz2⟩ := info_parts info_i16
  obtain ⟨i1, hi1, hy0, hy1, hy2⟩ := info_parts info_s16
  have HRD := Lib.hid hr
  have HPX := Lib.hid hp
  clear hr hp
  go_enter Try.func18, Try.ntmps18
  by_cases h2 : p.length < 2
  · have h2d : (p.length : Int) < 2 := by omega
    have HE := Lib.hid (show TB p = ([], 3) by unfold TB; rw [if_neg (by omega)])
    clear h2
    go_wp2_with fail
    go_ret2
    exact TakC.nil HE.out (Only.refl _ _)
  have h2d : decide ((p.length : Int) < 2) = false := decide_eq_false (by omega)
  have h2p : 2 ≤ p.length := by omega
  clear h2
  obtain ⟨x, y, hx0, hy0, hx1, hy1⟩ := first_two h2p
  have hx8 := HPX.out x (List.mem_of_getElem? hx0)
  have hy8 := HPX.out y (List.mem_of_getElem? hy0)
  obtain ⟨b, off, rfl, hcell⟩ := HRD.out.plain (by omega) (by omega)
  have cx := hcell 0 (.int .u8 (x : Int)) (by simp [bytesV, hx0])
  have cy := hcell 1 (.int .u8 (y : Int)) (by simp [bytesV, hy0])
  rw [Nat.add_zero] at cx
  have HX := Lib.hid hx1
  have HY := Lib.hid hy1
  have hp0 : (0 : Int) < (p.length : Int) := by omega
  have hp1 : (1 : Int) < (p.length : Int) := by omega
  have HCX := Lib.hid cx
  have HCY := Lib.hid cy
  clear hx0 hy0 hx1 hy1 hcell
  by_cases hx1 : x < 1
  · have HE := Lib.hid (show TB p = ([], 3) by unfold TB; rw [if_neg (by rw [HX.out]; omega)])
    have hx1' : (x : Int) < 1 := by omega
    clear hx1
    go_wp2_with fail
    go_ret2
    exact TakC.nil HE.out (Only.refl _ _)
  have hxd1 : decide ((x : Int) < 1) = false := decide_eq_false (by omega)
  by_cases hx2 : 4 < x
  · have HE := Lib.hid (show TB p = ([], 3) by unfold TB; rw [if_neg (by rw [HX.out]; omega)])
    have hx2' : (4 : Int) < (x : Int) := by omega
    clear hx1 hx2
    go_wp2_with fail
    go_ret2
    exact TakC.nil HE.out (Only.refl _ _)
  have hxd2 : decide ((4 : Int) < (x : Int)) = false := decide_eq_false (by omega)
  by_cases hy1 : y < 1
  · have HE := Lib.hid (show TB p = ([], 3) by unfold TB; rw [if_neg (by rw [HY.out]; omega)])
    have hy1' : (y : Int) < 1 := by omega
    clear hx1 hx2 hy1
    go_wp2_with fail
    go_ret2
    exact TakC.nil HE.out (Only.refl _ _)
  have hyd1 : decide ((y : Int) < 1) = false := decide_eq_false (by omega)
  by_cases hy2 : 32 < y
  · have HE := Lib.hid (show TB p = ([], 3) by unfold TB; rw [if_neg (by rw [HY.out]; omega)])
    have hy2' : (32 : Int) < (y : Int) := by omega
    clear hx1 hx2 hy1 hy2
    go_wp2_with fail
    go_ret2
    exact TakC.nil HE.out (Only.refl _ _)
  have hyd2 : decide ((32 : Int) < (y : Int)) = false := decide_eq_false (by omega)
  have hx14 : 1 ≤ x ∧ x ≤ 4 := by omega
  have hy132 : 1 ≤ y ∧ y ≤ 32 := by omega
  clear hx1 hx2 hy1 hy2
  go_wp2_with fail
  clear hxd1 hxd2 hyd1 hyd2
  refine (refBlockSize_any _ (x : Int) (by omega)).mono ?_
  rintro e w4 ⟨rfl, rfl⟩
  rw [bsz_nat hx14.1 hx14.2]
  by_cases hls : p.length = 5 + x * 292 / 8
  rotate_left
  · have HE := Lib.hid (show TB p = ([], 3) by unfold TB; rw [if_neg (by rw [HX.out]; omega)])
    have hlsd : ((p.length : Int) != ((5 + x * 292 / 8 : Nat) : Int)) = true := by simp; omega
    generalize 5 + x * 292 / 8 = L at hls hlsd ⊢
    clear hls
    go_wp2_with fail
    go_ret2
    exact TakC.nil HE.out (Only.refl _ _)
  have hlsd : ((p.length : Int) != ((5 + x * 292 / 8 : Nat) : Int)) = false := by simp; omega
  have HLS := Lib.hid hls
  generalize 5 + x * 292 / 8 = L at hlsd ⊢
  clear hls
  have hpb : p.length ≤ 151 := by have := HLS.out; omega
  have hpa : 41 ≤ p.length := by have := HLS.out; omega
  have HC0 := Lib.hid (show 2 ≤ p.length ∧ (1 ≤ p.getD 0 0 ∧ p.getD 0 0 ≤ 4) ∧ (1 ≤ p.getD 1 0 ∧ p.getD 1 0 ≤ 32) ∧ p.length = 5 + p.getD 0 0 * 292 / 8 by rw [HX.out, HY.out]; exact ⟨h2p, hx14, hy132, HLS.out⟩)
  have HI2 := Lib.hid (show (p.length : Int) - 2 = ((p.length - 2 : Nat) : Int) by omega)
  have HSS := Lib.hid (sum_same h2p HPX.out)
  have RQ := Lib.hid (show Reads w (some ⟨b, off, none⟩) 1 (p.take (p.length - 2)).length (bytesV (p.take (p.length - 2))) by
    have := HRD.out.front (k := p.length - 2) (by omega)
    rw [Nat.mul_one] at this
    rw [List.length_take, Nat.min_eq_left (by omega)]
    simpa [bytesV] using this)
  have HQL := Lib.hid (show p.length - 2 = (p.take (p.length - 2)).length by rw [List.length_take, Nat.min_eq_left (by omega)])
  have HQX := Lib.hid (show ∀ z ∈ p.take (p.length - 2), z < 256 from fun z hz => HPX.out z (List.mem_of_mem_take hz))
  obtain ⟨q, hq⟩ : ∃ q, q = p.take (p.length - 2) := ⟨_, rfl⟩
  rw [← hq] at RQ HQX HQL HSS
  have hq2 : q.length = p.length - 2 := HQL.out.symm
  have HQE := Lib.hid hq
  have HQ2 := Lib.hid hq2
  have hql : q.length ≤ 200 := by omega
  clear hq hq2
  have tok : True := trivial
  go_wp2_with (first | (clear tok; refine arm_front Try.underlying22 sz_u8 (p.length - 2) (by omega) rfl rfl rfl (congrArg (Value.int .i64) HI2.out) ?_; rw [HQL.out]))
  clear hlsd
  refine (summed_any _ (some ⟨b, off, none⟩) c q RQ.out HQX.out (by omega)).mono ?_
  rintro e w4 ⟨A4, c4, rfl, own4, o4, f4⟩
  have HR4 := Lib.hid (Reads.of_own own4)
  have HO4 := Lib.hid o4
  clear own4 f4 o4
  go_wp2_with fail
  refine (same_any _ (some ⟨b, off, none⟩) A4 p.length (q.length + 2) c c4 p (sm q) (HRD.out.then HO4.out) HR4.out HPX.out (sm_lt HQX.out)).mono ?_
  rintro e w5 ⟨rfl, rfl⟩
  by_cases hsum : p = sm q
  rotate_left
  · have HE := Lib.hid (show TB p = ([], 10) by unfold TB; rw [if_pos HC0.out, if_neg (by rw [← HQE.out]; exact fun h => hsum (HSS.out.2 h))])
    rw [decide_eq_false hsum]
    clear hsum
    go_wp2_with fail
    go_ret2
    exact TakC.nil HE.out HO4.out
  rw [decide_eq_true hsum]
  have HS1 := Lib.hid (show crc (p.take (p.length - 2)) = p.getD (p.length - 2) 0 * 256 + p.getD (p.length - 1) 0 by rw [← HQE.out]; exact HSS.out.1 hsum)
  clear hsum HSS HR4
  obtain ⟨A2, hA2⟩ : ∃ A2 : Option Addr, A2 = (if c = 2 then (some ⟨b, off, none⟩ : Option Addr) else (some ⟨b, off, none⟩ : Option Addr).map (·.add (2 * 1))) := ⟨_, rfl⟩
  obtain ⟨m2, hm2⟩ : ∃ m2, m2 = p.length - 2 - 2 := ⟨_, rfl⟩
  have HRM := Lib.hid (show Reads w A2 1 m2 (bytesV (mid p)) by
    have := HRD.out.sub (j := 2) (m := p.length - 2) (c := c) (by omega) (by omega) hc
    rw [bytesV_sub] at this
    rw [hA2, hm2]; exact this)
  have HPM := Lib.hid (show ∀ z ∈ mid p, z < 256 from fun z hz => HPX.out z (List.mem_of_mem_take (List.mem_of_mem_drop hz)))
  have HA2 := Lib.hid hA2
  have HM2 := Lib.hid hm2
  have hm2l : m2 ≤ 151 := by omega
  obtain ⟨c2, hc2⟩ : ∃ c2, c2 = c - 2 := ⟨_, rfl⟩
  have HC2 := Lib.hid hc2
  clear hA2 hm2 hc2
  have tok : True := trivial
  go_wp2_with (first | (clear tok; refine arm_cut Try.underlying22 sz_u8 2 (p.length - 2) (by omega) (by omega) rfl rfl rfl rfl (congrArg (Value.int .i64) HI2.out) ?_; rw [← HA2.out, ← HM2.out, ← HC2.out]))
  clear HA2 HM2 HC2 HI2
  have fx00 : ∀ w', Cls w w' → w'.cell? ⟨b, off, none⟩ = some (.int .u8 (x : Int)) := fun w' h => h.cell HCX.out
  by_cases hlast : (mid p).getLastD 0 = 0
  · have HE := Lib.hid (show TB p = ([], 3) by unfold TB; rw [if_pos HC0.out, if_pos HS1.out, if_neg (fun h => h.1 hlast)])
    refine (refOpen_none _ A2 m2 c2 (mid p) (HRM.out.then HO4.out) (by omega) hlast).mono ?_
    rintro e w5 ⟨rfl, rfl⟩
    rename World => w5
    have fx0 : ∀ w', Cls w5 w' → w'.cell? ⟨b, off, none⟩ = some (.int .u8 (x : Int)) := fun w' h => fx00 w' (Cls.then HO4.out h)
    clear hlast fx00
    go_wp2_with fail
    refine rgn (Cls w5) (by kernel_rfl) (by kernel_rfl) Cls.refl ?_
    refine qW (.int .i64 3) rfl rfl (fun w hC K hK => ?_) ?_
    · have fx := fx0 w hC; (go_wp2_with fail) <;> (first | exact hC | exact hK _ hC)
    simp only [Act.put, List.setIfInBounds_toArray, List.set_cons_zero, List.set_cons_succ]
    refine qW (.bool true) rfl rfl (fun w hC K hK => ?_) ?_
    · have fx := fx0 w hC; (go_wp2_with fail) <;> (first | exact hC | exact hK _ hC)
    simp only [Act.put, List.setIfInBounds_toArray, List.set_cons_zero, List.set_cons_succ]
    refine qW (.bool true) rfl rfl (fun w hC K hK => ?_) ?_
    · have fx := fx0 w hC; (go_wp2_with fail) <;> (first | exact hC | exact hK _ hC)
    simp only [Act.put, List.setIfInBounds_toArray, List.set_cons_zero, List.set_cons_succ]
    refine qU rfl ?_
    simp only [Act.put, List.setIfInBounds_toArray, List.set_cons_zero, List.set_cons_succ]
    refine qU rfl ?_
    simp only [Act.put, List.setIfInBounds_toArray, List.set_cons_zero, List.set_cons_succ]
    refine qU rfl ?_
    simp only [Act.put, List.setIfInBounds_toArray, List.set_cons_zero, List.set_cons_succ]
    refine qU rfl ?_
    simp only [Act.put, List.setIfInBounds_toArray, List.set_cons_zero, List.set_cons_succ]
    refine qU rfl ?_
    simp only [Act.put, List.setIfInBounds_toArray, List.set_cons_zero, List.set_cons_succ]
    refine qU rfl ?_
    simp only [Act.put, List.setIfInBounds_toArray, List.set_cons_zero, List.set_cons_succ]
    refine qU rfl ?_
    simp only [Act.put, List.setIfInBounds_toArray, List.set_cons_zero, List.set_cons_succ]
    refine qU rfl ?_
    simp only [Act.put, List.setIfInBounds_toArray, List.set_cons_zero, List.set_cons_succ]
    refine qW (.bool true) rfl rfl (fun w hC K hK => ?_) ?_
    · have fx := fx0 w hC; (go_wp2_with fail) <;> (first | exact hC | exact hK _ hC)
    simp only [Act.put, List.setIfInBounds_toArray, List.set_cons_zero, List.set_cons_succ]
    refine qN ?_
    intro w6 hw6
    go_wp2_with fail
    go_ret2
    exact TakC.nil HE.out (HO4.out.then hw6)
  · obtain ⟨nb, hnb⟩ : ∃ nb, nb = nBits (mid p) := ⟨_, rfl⟩
    refine (refOpen_some _ A2 m2 c2 (mid p) (HRM.out.then HO4.out) (by omega) HPM.out hlast).mono ?_
    rintro e w6 ⟨gr, bb, cc, rfl, hrd, o6, hgr, hbb⟩
    rw [← hnb] at hrd
    have hs4 := HO4.out.size
    have HO6 := Lib.hid (HO4.out.then o6)
    have hbl : (bitsIn (mid p) nb).length = nb := bitsIn_length _ _
    have HRE := Lib.hid hrd
    have hgrw : w.heap.size ≤ gr ∧ w.heap.size ≤ bb := by omega
    have HNB := Lib.hid hnb
    have HLT := Lib.hid hlast
    have HTB := Lib.hid (show tbits p = bitsIn (mid p) nb by unfold tbits; rw [hnb])
    generalize bitsIn (mid p) nb = bs at hbl HRE HTB hrd
    have hnbl : nb ≤ 100000 := by rw [hnb]; unfold nBits; have := HRM.out.1; simp [bytesV] at this; omega
    clear hnb hlast hrd o6 hgr hbb HO4
    have HBL := Lib.hid hbl
    have HLF := Lib.hid (show ∀ w', Cls w6 w' → Calls Try.prog 39 #[.pointer (some ⟨gr, 0, none⟩)] w' fun e w'' => e = .returned (.int .i64 (nb : Int)) ∧ Only [] w' w'' from fun w' hC =>
      (refLeft_any w' gr bb cc bs 0 (HRE.out.only hC.only (by simp) (by simp))).mono fun e w'' ⟨h1, h2⟩ => ⟨by rw [h1, HBL.out]; simp, h2 ▸ (Only.refl _ _).drew⟩)
    have fx0 : ∀ w', Cls w6 w' → w'.cell? ⟨b, off, none⟩ = some (.int .u8 (x : Int)) := fun w' h => fx00 w' (Cls.then HO6.out h)
    clear hbl
    obtain ⟨TT, hTT⟩ : ∃ TT, TT = ((nb : Int) != 292 * (x : Int)) := ⟨_, rfl⟩
    have HTT := Lib.hid hTT
    have hT2 : ((nb : Int) != 292 * (x : Int)) = TT := hTT.symm
    clear hTT
    go_wp2_with fail
    refine rgn (Cls w6) (by kernel_rfl) (by kernel_rfl) Cls.refl ?_
    refine qW (.int .i64 0) rfl rfl (fun w hC K hK => ?_) ?_
    · have fx := fx0 w hC; (go_wp2_with fail) <;> (first | exact hC | exact hK _ hC)
    simp only [Act.put, List.setIfInBounds_toArray, List.set_cons_zero, List.set_cons_succ]
    refine qW (.bool false) rfl rfl (fun w hC K hK => ?_) ?_
    · have fx := fx0 w hC; (go_wp2_with fail) <;> (first | exact hC | exact hK _ hC)
    simp only [Act.put, List.setIfInBounds_toArray, List.set_cons_zero, List.set_cons_succ]
    refine qW (.bool false) rfl rfl (fun w hC K hK => ?_) ?_
    · have fx := fx0 w hC; (go_wp2_with fail) <;> (first | exact hC | exact hK _ hC)
    simp only [Act.put, List.setIfInBounds_toArray, List.set_cons_zero, List.set_cons_succ]
    refine qW (.pointer (some ⟨gr, 0, none⟩)) rfl rfl (fun w hC K hK => ?_) ?_
    · have fx := fx0 w hC; (go_wp2_with fail) <;> (first | exact hC | exact hK _ hC)
    simp only [Act.put, List.setIfInBounds_toArray, List.set_cons_zero, List.set_cons_succ]
    refine qC (fun w hC => Calls.cls hC (HLF.out w hC)) rfl (fun w => ?_) ?_
    · go_simp; try rfl
    simp only [Act.put, List.setIfInBounds_toArray, List.set_cons_zero, List.set_cons_succ]
    refine qW (.slice (some ⟨b, off, none⟩) p.length c) rfl rfl (fun w hC K hK => ?_) ?_
    · have fx := fx0 w hC; (go_wp2_with fail) <;> (first | exact hC | exact hK _ hC)
    simp only [Act.put, List.setIfInBounds_toArray, List.set_cons_zero, List.set_cons_succ]
    refine qW (.pointer (some ⟨b, off, none⟩)) rfl rfl (fun w hC K hK => ?_) ?_
    · have fx := fx0 w hC; (go_wp2_with fail) <;> (first | exact hC | exact hK _ hC)
    simp only [Act.put, List.setIfInBounds_toArray, List.set_cons_zero, List.set_cons_succ]
    refine qW (.int .u8 (x : Int)) rfl rfl (fun w hC K hK => ?_) ?_
    · have fx := fx0 w hC; (go_wp2_with fail) <;> (first | exact hC | exact hK _ hC)
    simp only [Act.put, List.setIfInBounds_toArray, List.set_cons_zero, List.set_cons_succ]
    refine qW (.int .i64 (x : Int)) rfl rfl (fun w hC K hK => ?_) ?_
    · have fx := fx0 w hC; (go_wp2_with fail) <;> (first | exact hC | exact hK _ hC)
    simp only [Act.put, List.setIfInBounds_toArray, List.set_cons_zero, List.set_cons_succ]
    refine qW (.int .i64 (292 * (x : Int))) rfl rfl (fun w hC K hK => ?_) ?_
    · have fx := fx0 w hC; (go_wp2_with fail) <;> (first | exact hC | exact hK _ hC)
    simp only [Act.put, List.setIfInBounds_toArray, List.set_cons_zero, List.set_cons_succ]
    refine qW (.bool TT) rfl rfl (fun w hC K hK => ?_) ?_
    · have fx := fx0 w hC; (go_wp2_with fail) <;> (first | exact hC | exact hK _ hC)
    simp only [Act.put, List.setIfInBounds_toArray, List.set_cons_zero, List.set_cons_succ]
    refine qW (.bool TT) rfl rfl (fun w hC K hK => ?_) ?_
    · have fx := fx0 w hC; (go_wp2_with fail) <;> (first | exact hC | exact hK _ hC)
    simp only [Act.put, List.setIfInBounds_toArray, List.set_cons_zero, List.set_cons_succ]
    refine qN ?_
    intro w7 hw7
    have HO7 := Lib.hid (HO6.out.then hw7)
    have HR7 := Lib.hid (HRE.out.only hw7.only (by simp) (by simp))
    clear hT2 fx0 HLF hw7 HO6 HRE
    by_cases hnbx : nb = 292 * x
    rotate_left
    · have HE := Lib.hid (show TB p = ([], 3) by unfold TB; rw [if_pos HC0.out, if_pos HS1.out, if_neg (fun h => hnbx (by rw [HNB.out, h.2, HX.out]))])
      have hTt : TT = true := by rw [HTT.out]; simp; omega
      subst hTt
      clear hnbx
      go_wp2_with fail
      go_ret2
      exact TakC.nil HE.out HO7.out
    have hTt : TT = false := by rw [HTT.out]; simp; omega
    subst hTt
    have HOKB := Lib.hid (show (mid p).getLastD 0 ≠ 0 ∧ nBits (mid p) = 292 * p.getD 0 0 by rw [HX.out, ← HNB.out]; exact ⟨HLT.out, hnbx⟩)
    have hbs : bs.length = 292 * x := by rw [HBL.out, hnbx]
    have HBS := Lib.hid hbs
    clear hnbx HTT HNB HLT HBL hbs hnbl
    obtain ⟨hgr, hbb⟩ := hgrw
    have HBADE := Lib.hid (show okA bs y x = false → TB p = ([], 3) from fun h => by unfold TB; rw [if_pos HC0.out, if_pos HS1.out, if_pos HOKB.out, if_neg (by rw [HTB.out, HX.out, HY.out, h]; decide)])
    have HGOOD := Lib.hid (show okA bs y x = true → TB p = ((List.range x).map (rowN bs y), 0) from fun h => by unfold TB; rw [if_pos HC0.out, if_pos HS1.out, if_pos HOKB.out, if_pos (by rw [HTB.out, HX.out, HY.out, h]), HTB.out, HX.out, HY.out])
    clear HC0 HS1 HOKB HTB
    go_wp2_with fail
    go_loopw [7, 8] (fun ov cv wr => ∃ k : Nat, k ≤ x ∧ cv = .int .i64 (k : Int) ∧ ∃ A' c' hs, ov = .slice A' k c' ∧ Hid (hs.length = k) ∧ Hid (RefIs wr gr bb cc bs (292 * k)) ∧ Hid (wr.ownsRow 0 39 1 (.slice A' k c') k (rowsV hs ((List.range k).map (rowN bs y)))) ∧ Hid (∀ (i : Nat) (h : Option Addr × Nat), hs[i]? = some h → Reads wr h.1 1 y (sV (rowN bs y i)) ∧ ∀ ad, h.1 = some ad → w.heap.size ≤ ad.block ∧ ad.block ∉ rowFp (.slice A' k c') ∧ ad.block ≠ gr ∧ ad.block < wr.heap.size) ∧ Hid (∀ z ∈ rowFp (.slice A' k c'), w.heap.size ≤ z ∧ z ≠ gr ∧ z ≠ bb) ∧ Hid (∀ c, c < k → okc bs y c = true) ∧ Hid (∀ h ∈ hs, y ≤ h.2) ∧ Hid (Only [] w wr)) (fun _ cv _ => x - (intOf cv).toNat)
    case atStart => exact ⟨0, Nat.zero_le _, rfl, none, 0, [], rfl, Lib.hid rfl, HR7, Lib.hid (World.ownsRow_nil _ _ _ _), Lib.hid (fun i h hh => by simp at hh), Lib.hid (by simp [rowFp, Value.ownBlock]), Lib.hid (fun c hc => by omega), Lib.hid (by simp), HO7⟩
    case round =>
      obtain ⟨k, hk, rfl, A', c', hs, rfl, HHL, HRk, HOW, HRW, HFP, HOK, HCP, HO⟩ := hrel
      have cx : wr.cell? ⟨b, off, none⟩ = some (.int .u8 (x : Int)) := Cls.cell (show Cls w wr from HO.out) HCX.out
      by_cases hlt : k < x
      · have hki : (k : Int) < (x : Int) := by omega
        have hbsl := HBS.out
        have hfl := fld_lt bs (292 * k) 4 (by omega)
        go_wp2_with fail
        refine (refTake_ok _ gr bb cc bs (292 * k) 4 HRk.out (by omega) (by omega)).mono ?_
        rintro e w4 ⟨rfl, hr4, o4⟩
        obtain ⟨s, hs0⟩ : ∃ s, s = shf bs k := ⟨_, rfl⟩
        rw [show fld bs (292 * k) 4 = s from hs0.symm] at hfl ⊢
        have HS := Lib.hid hs0
        have HR4 := Lib.hid hr4
        have HOW4 := Lib.hid (own_only HOW.out o4 (fun z hz => by have := HFP.out z hz; simp; omega))
        have HRW4 := Lib.hid (show ∀ (i : Nat) (h : Option Addr × Nat), hs[i]? = some h → Reads w4 h.1 1 y (sV (rowN bs y i)) ∧ ∀ ad, h.1 = some ad → w.heap.size ≤ ad.block ∧ ad.block ∉ rowFp (.slice A' k c') ∧ ad.block ≠ gr ∧ ad.block < w4.heap.size from fun i h hh => by
          obtain ⟨h1, h2⟩ := HRW.out i h hh
          have := o4.size
          exact ⟨h1.only o4 (fun _ ad he => by have := h2 ad he; simp; omega), fun ad he => by obtain ⟨h3, h4, h5, h6⟩ := h2 ad he; exact ⟨h3, h4, h5, by omega⟩⟩)
        have HO4 := Lib.hid (HO.out.first o4 (by simp; exact hgr))
        have HFL := Lib.hid (show ∀ z ∈ rowFp (.slice A' k c'), z < w4.heap.size from fun z hz => own_lt HOW4.out z hz)
        have hsz := HO4.out.size
        have hgl : gr < w4.heap.size := HR4.out.1.lt
        have hbbl : bb < w4.heap.size := HR4.out.2.1.lt (by omega) (by omega) _ rfl
        clear hr4 o4 HRk HOW HRW HO hs0 cx
        by_cases hs7 : s ≤ 7
        · have hsd : decide ((7 : Int) < (s : Int)) = false := decide_eq_false (by omega)
          go_wp2_with fail
          clear hsd
          go_loopw [11, 12] (fun lv iv wr => ∃ i : Nat, i ≤ 32 ∧ iv = .int .i64 (i : Int) ∧ ∃ m : Nat, Hid (m = min i y) ∧ ∃ B cB, lv = .slice B m cB ∧ Hid (RefIs wr gr bb cc bs (292 * k + 4 + 9 * i)) ∧ Hid (wr.ownsRow 0 45 1 (.slice B m cB) m (sV (rowN bs m k))) ∧ Hid (Fresh w4 [] (rowFp (.slice B m cB))) ∧ Hid (∀ j, y ≤ j → j < i → mnt bs k j = 0) ∧ Hid (Only [gr] w4 wr)) (fun _ iv _ => 32 - (intOf iv).toNat)
          case atStart => exact ⟨0, by omega, rfl, 0, Lib.hid (by omega), none, 0, rfl, HR4, Lib.hid (World.ownsRow_nil _ _ _ _), Lib.hid (by simp [Fresh, rowFp, Value.ownBlock]), Lib.hid (fun j h1 h2 => by omega), Lib.hid (Only.refl _ _)⟩
          case round =>
            obtain ⟨i, hi, rfl, m, HMN, B, cB, rfl, HR5, HOL5, HF5, HZ5, HO5⟩ := hrel
            by_cases hi32 : i < 32
            · have hid : (i : Int) < 32 := by omega
              have hm512 := fld_lt bs (292 * k + 4 + 9 * i) 9 (by omega)
              go_wp2_with fail
              refine (refTake_ok _ gr bb cc bs (292 * k + 4 + 9 * i) 9 HR5.out (by omega) (by omega)).mono ?_
              rintro e w6 ⟨rfl, hr6, o6⟩
              obtain ⟨M, hM⟩ : ∃ M, M = mnt bs k i := ⟨_, rfl⟩
              rw [show fld bs (292 * k + 4 + 9 * i) 9 = M from hM.symm] at hm512 ⊢
              have HM := Lib.hid hM
              have HR6 := Lib.hid (show RefIs w6 gr bb cc bs (292 * k + 4 + 9 * (i + 1)) by rw [show 292 * k + 4 + 9 * (i + 1) = 292 * k + 4 + 9 * i + 9 by omega]; exact hr6)
              have HOL6 := Lib.hid (own_only HOL5.out o6 (fun z hz => by rcases HF5.out z hz with h | h; cases h; simp; omega))
              have HF6 := HF5
              have HO6 := Lib.hid (HO5.out.trans o6 (Fresh.refl _ _))
              have cy6 : w6.cell? ⟨b, off + 1, none⟩ = some (.int .u8 (y : Int)) := Cls.cell (show Cls w w6 from HO4.out.first HO6.out (by simp; exact hgr)) HCY.out
              clear hM hr6 o6 HR5 HOL5 HF5 HO5
              by_cases hin : i < y
              · have HZ6 := Lib.hid (show ∀ j, y ≤ j → j < i + 1 → mnt bs k j = 0 from fun j h1 h2 => by omega)
                have hin2 : (i : Int) < (y : Int) := by omega
                have hmi : m = i := by have := HMN.out; omega
                subst hmi
                clear HMN HZ5
                by_cases hM256 : 256 ≤ M
                · have hMd : (255 : Int) < (M : Int) := by omega
                  have HMV := Lib.hid (show sgn M = (M : Int) - 512 by unfold sgn; rw [if_pos hM256])
                  have hb1 : -256 ≤ (M : Int) - 512 := by omega
                  have hb2 : (M : Int) - 512 ≤ 255 := by omega
                  clear hM256
                  obtain ⟨m', hm'⟩ : ∃ m', (M : Int) - 512 = m' := ⟨_, rfl⟩
                  rw [hm'] at HMV hb1 hb2
                  have HV := Lib.hid (show smp bs k m = m' * 2 ^ s + (hlfE s : Int) by unfold smp; rw [← HM.out, HMV.out, ← HS.out])
                  obtain ⟨bd1, bd2, bd3, bd4⟩ := smp_bd hb1 hb2 hs7
                  have eq1 : wrap64 (m' * 2 ^ s) = m' * 2 ^ s := by unfold wrap64; omega
                  generalize hqv : m' * 2 ^ s = qv at HV bd1 bd2 bd4 eq1
                  have HOF := Lib.hid (fun w => refHalf_any w s hs7)
                  generalize hov : (hlfE s : Int) = ov at HV bd3 bd4 HOF
                  have hov0 : 0 ≤ ov := by rw [← hov]; omega
                  obtain ⟨z, hz⟩ : ∃ z, z = qv + ov := ⟨_, rfl⟩
                  have eq2 : wrap64 (qv + ov) = qv + ov := by unfold wrap64; omega
                  have eq3 : IntKind.i16.wrap (qv + ov) = z := by rw [wrap_i16]; omega
                  have HV2 := Lib.hid (show smp bs k m = z by rw [HV.out, hz])
                  clear HV hz hov HMV HM
                  go_wp2_with fail
                  refine (HOF.out _).mono ?_
                  rintro e w7 ⟨rfl, rfl⟩
                  go_wp2_with (at_builtin; refine wpList_app _ rfl _ _ 39 rfl 45 i0 (.int .i16 0) 1 2 Try.underlying39 hi0 hz0 hz1 hz2 rfl (by decide) B m cB _ rfl (HOL6.out.alloc _) _ 1 1 [.int .i16 z] rfl (Reads.one _ _ _) (by simp [Value.oneCell']) (by unfold maxLen; omega) (by omega) ?_)
                  intro B8 cB8 w8 own8 o8 f8
                  have HOL8 := Lib.hid (show w8.ownsRow 0 45 1 (.slice B8 (m + 1) cB8) (m + 1) (sV (rowN bs (m + 1) k)) by rw [rowN_step, HV2.out]; exact own8)
                  have o68 : Only (rowFp (.slice B m cB)) w6 w8 := ((Only.refl _ _).alloc _).trans o8 (Fresh.refl _ _)
                  have HF8 := Lib.hid (show Fresh w4 [] (rowFp (.slice B8 (m + 1) cB8)) from fun x hx => by
                    rcases f8 x hx with h | h
                    · exact HF6.out x h
                    · have := HO6.out.size; simp at h; exact .inr (by omega))
                  have HR8 := Lib.hid (HR6.out.only o68 (fun h => by rcases HF6.out gr h with h | h; cases h; omega) (fun h => by rcases HF6.out bb h with h | h; cases h; omega))
                  have HO8 := Lib.hid (HO6.out.trans o68 (fun x hx => .inr (by rcases HF6.out x hx with h | h; cases h; exact h)))
                  clear own8 o8 f8 o68 HOL6 HF6 HR6 HO6
                  have hmn := Lib.hid (show m + 1 = min (m + 1) y by omega)
                  go_wp2_with fail
                  go_roundw
                  case rel => exact ⟨m + 1, by omega, by go_num, m + 1, hmn, B8, cB8, rfl, HR8, HOL8, HF8, HZ6, HO8⟩
                  case measure => simp [intOf]; omega
                · have hMd : decide ((255 : Int) < (M : Int)) = false := decide_eq_false (by omega)
                  have hMd2 : (M : Int) ≤ 255 := by omega
                  have HMV := Lib.hid (show sgn M = (M : Int) by unfold sgn; rw [if_neg hM256])
                  have hb1 : -256 ≤ (M : Int) := by omega
                  have hb2 : (M : Int) ≤ 255 := by omega
                  clear hM256
                  obtain ⟨m', hm'⟩ : ∃ m', (M : Int) = m' := ⟨_, rfl⟩
                  rw [hm'] at HMV hb1 hb2
                  have HV := Lib.hid (show smp bs k m = m' * 2 ^ s + (hlfE s : Int) by unfold smp; rw [← HM.out, HMV.out, ← HS.out])
                  obtain ⟨bd1, bd2, bd3, bd4⟩ := smp_bd hb1 hb2 hs7
                  have eq1 : wrap64 (m' * 2 ^ s) = m' * 2 ^ s := by unfold wrap64; omega
                  generalize hqv : m' * 2 ^ s = qv at HV bd1 bd2 bd4 eq1
                  have HOF := Lib.hid (fun w => refHalf_any w s hs7)
                  generalize hov : (hlfE s : Int) = ov at HV bd3 bd4 HOF
                  have hov0 : 0 ≤ ov := by rw [← hov]; omega
                  obtain ⟨z, hz⟩ : ∃ z, z = qv + ov := ⟨_, rfl⟩
                  have eq2 : wrap64 (qv + ov) = qv + ov := by unfold wrap64; omega
                  have eq3 : IntKind.i16.wrap (qv + ov) = z := by rw [wrap_i16]; omega
                  have HV2 := Lib.hid (show smp bs k m = z by rw [HV.out, hz])
                  clear HV hz hov HMV HM
                  go_wp2_with fail
                  refine (HOF.out _).mono ?_
                  rintro e w7 ⟨rfl, rfl⟩
                  go_wp2_with (at_builtin; refine wpList_app _ rfl _ _ 39 rfl 45 i0 (.int .i16 0) 1 2 Try.underlying39 hi0 hz0 hz1 hz2 rfl (by decide) B m cB _ rfl (HOL6.out.alloc _) _ 1 1 [.int .i16 z] rfl (Reads.one _ _ _) (by simp [Value.oneCell']) (by unfold maxLen; omega) (by omega) ?_)
                  intro B8 cB8 w8 own8 o8 f8
                  have HOL8 := Lib.hid (show w8.ownsRow 0 45 1 (.slice B8 (m + 1) cB8) (m + 1) (sV (rowN bs (m + 1) k)) by rw [rowN_step, HV2.out]; exact own8)
                  have o68 : Only (rowFp (.slice B m cB)) w6 w8 := ((Only.refl _ _).alloc _).trans o8 (Fresh.refl _ _)
                  have HF8 := Lib.hid (show Fresh w4 [] (rowFp (.slice B8 (m + 1) cB8)) from fun x hx => by
                    rcases f8 x hx with h | h
                    · exact HF6.out x h
                    · have := HO6.out.size; simp at h; exact .inr (by omega))
                  have HR8 := Lib.hid (HR6.out.only o68 (fun h => by rcases HF6.out gr h with h | h; cases h; omega) (fun h => by rcases HF6.out bb h with h | h; cases h; omega))
                  have HO8 := Lib.hid (HO6.out.trans o68 (fun x hx => .inr (by rcases HF6.out x hx with h | h; cases h; exact h)))
                  clear own8 o8 f8 o68 HOL6 HF6 HR6 HO6
                  have hmn := Lib.hid (show m + 1 = min (m + 1) y by omega)
                  go_wp2_with fail
                  go_roundw
                  case rel => exact ⟨m + 1, by omega, by go_num, m + 1, hmn, B8, cB8, rfl, HR8, HOL8, HF8, HZ6, HO8⟩
                  case measure => simp [intOf]; omega
              · have hin2 : decide ((i : Int) < (y : Int)) = false := decide_eq_false (by omega)
                by_cases hM0 : M = 0
                · have HZ6 := Lib.hid (show ∀ j, y ≤ j → j < i + 1 → mnt bs k j = 0 from fun j h1 h2 => by
                    by_cases hji : j = i
                    · subst hji; rw [← HM.out]; exact hM0
                    · exact HZ5.out j h1 (by omega))
                  subst hM0
                  have hmn := Lib.hid (show m = min (i + 1) y by have := HMN.out; omega)
                  go_wp2_with fail
                  go_roundw
                  case rel => exact ⟨i + 1, by omega, by go_num, m, hmn, B, cB, rfl, HR6, HOL6, HF6, HZ6, HO6⟩
                  case measure => simp [intOf]; omega
                · have HBAD := Lib.hid (HBADE.out (okA_bad (bs := bs) (n := y) (ch := x) hlt (fun h => by have := h.2 i (by omega) hi32; rw [← HM.out] at this; omega)))
                  by_cases hM256 : 255 < M
                  · have hMd : (255 : Int) < (M : Int) := by omega
                    have hMn : ((M : Int) - 512 != 0) = true := by simp; omega
                    have hMn2 : (M : Int) - 512 ≠ 0 := by omega
                    clear hM0 hM256
                    go_wp2_with fail
                    go_ret2
                    exact TakC.nil HBAD.out (HO4.out.first HO6.out (by simp; exact hgr))
                  · have hMd : decide ((255 : Int) < (M : Int)) = false := decide_eq_false (by omega)
                    have hMn : ((M : Int) != 0) = true := by simp; omega
                    have hMn2 : (M : Int) ≠ 0 := by omega
                    clear hM0 hM256
                    go_wp2_with fail
                    go_ret2
                    exact TakC.nil HBAD.out (HO4.out.first HO6.out (by simp; exact hgr))
            · have hi' : i = 32 := by omega
              subst hi'
              have hmy : m = y := by have := HMN.out; omega
              subst hmy
              have own5 := own_only HOW4.out HO5.out (fun z hz => by have := HFP.out z hz; simp; omega)
              have hs5 := HO5.out.size
              have OWN5 := Lib.hid own5
              go_wp2_with (at_builtin; refine wpList_app _ rfl _ _ 28 rfl 39 i1 (.slice none 0 0) 1 24 Try.underlying28 hi1 hy0 hy1 hy2 rfl (by decide) A' k c' _ rfl (own5.alloc _) _ 1 1 [.slice B m cB] rfl (Reads.one _ _ _) (by simp [Value.oneCell']) (by unfold maxLen; omega) (by omega) ?_)
              intro A9 c9 w9 own9 o9 f9
              have o59 : Only (rowFp (.slice A' k c')) wr w9 := ((Only.refl _ _).alloc _).trans o9 (Fresh.refl _ _)
              have HHLn := Lib.hid (show (hs ++ [(B, cB)]).length = k + 1 by rw [List.length_append, HHL.out]; rfl)
              have HOWn := Lib.hid (show w9.ownsRow 0 39 1 (.slice A9 (k + 1) c9) (k + 1) (rowsV (hs ++ [(B, cB)]) ((List.range (k + 1)).map (rowN bs m))) by
                rw [List.range_succ, List.map_append, List.map_cons, List.map_nil, rowsV_snoc (by rw [HHL.out]; simp), rowN_len]
                exact own9)
              have hfp9 : ∀ z ∈ rowFp (.slice A9 (k + 1) c9), z ∈ rowFp (.slice A' k c') ∨ wr.heap.size ≤ z := fun z hz => by
                rcases f9 z hz with h | h
                · exact .inl h
                · simp at h; exact .inr (by omega)
              have HRWn := Lib.hid (show ∀ (i : Nat) (h : Option Addr × Nat), (hs ++ [(B, cB)])[i]? = some h → Reads w9 h.1 1 m (sV (rowN bs m i)) ∧ ∀ ad, h.1 = some ad → w.heap.size ≤ ad.block ∧ ad.block ∉ rowFp (.slice A9 (k + 1) c9) ∧ ad.block ≠ gr ∧ ad.block < w9.heap.size from fun i h hh => by
                have hs9 := o59.size
                by_cases hik : i < hs.length
                · rw [List.getElem?_append_left hik] at hh
                  obtain ⟨h1, h2⟩ := HRW4.out i h hh
                  refine ⟨(h1.only HO5.out (fun _ ad he => by have := h2 ad he; simp; omega)).only o59 (fun _ ad he => (h2 ad he).2.1), fun ad he => ?_⟩
                  obtain ⟨h3, h4, h5, h6⟩ := h2 ad he
                  exact ⟨h3, fun hm => by rcases hfp9 _ hm with h | h; exact h4 h; omega, h5, by omega⟩
                · rw [List.getElem?_append_right (by omega), List.getElem?_singleton] at hh
                  split at hh
                  · rename_i h0
                    cases hh
                    have hik : i = k := by have := HHL.out; omega
                    subst hik
                    have hb4 : ∀ ad, B = some ad → w4.heap.size ≤ ad.block ∧ ad.block < wr.heap.size := fun ad he => by
                      subst he
                      have h1 := HF5.out ad.block (by simp [rowFp, Value.ownBlock])
                      have h2 := own_lt HOL5.out ad.block (by simp [rowFp, Value.ownBlock])
                      rcases h1 with h1 | h1
                      · cases h1
                      · exact ⟨h1, h2⟩
                    refine ⟨(Reads.of_own HOL5.out).only o59 (fun _ ad he hm => by have := hb4 ad he; have := HFL.out _ hm; omega), fun ad he => ?_⟩
                    have h1 := hb4 ad he
                    exact ⟨by omega, fun hm => by rcases hfp9 _ hm with h | h; have := HFL.out _ h; omega; omega, by omega, by omega⟩
                  · cases hh)
              have HCPn := Lib.hid (show ∀ h ∈ hs ++ [(B, cB)], m ≤ h.2 from fun h hh => by
                rcases List.mem_append.1 hh with h1 | h1
                · exact HCP.out h h1
                · simp at h1; subst h1; exact own_cap HOL5.out)
              have HFPn := Lib.hid (show ∀ z ∈ rowFp (.slice A9 (k + 1) c9), w.heap.size ≤ z ∧ z ≠ gr ∧ z ≠ bb from fun z hz => by
                rcases hfp9 z hz with h | h
                · exact HFP.out z h
                · omega)
              have HRn := Lib.hid (show RefIs w9 gr bb cc bs (292 * (k + 1)) by
                rw [show 292 * (k + 1) = 292 * k + 4 + 9 * 32 by omega]
                exact HR5.out.only o59 (fun h => by have := HFP.out _ h; omega) (fun h => by have := HFP.out _ h; omega))
              have HOKn := Lib.hid (show ∀ c, c < k + 1 → okc bs m c = true from fun c hc => by
                by_cases hck : c = k
                · subst hck; exact okc_true.2 ⟨by rw [← HS.out]; exact hs7, HZ5.out⟩
                · exact HOK.out c (by omega))
              have HOn := Lib.hid ((HO4.out.first HO5.out (by simp; exact hgr)).first o59 (fun z hz => (HFP.out z hz).1))
              clear own5 own9 o9 f9 o59 hfp9
              go_wp2_with fail
              go_roundw
              case rel => exact ⟨k + 1, by omega, by go_num, A9, c9, hs ++ [(B, cB)], rfl, HHLn, HRn, HOWn, HRWn, HFPn, HOKn, HCPn, HOn⟩
              case measure => simp [intOf]; omega
        · have hsd : (7 : Int) < (s : Int) := by omega
          have HBAD := Lib.hid (HBADE.out (okA_bad (bs := bs) (n := y) (ch := x) hlt (fun h => by rw [← HS.out] at h; omega)))
          clear hs7
          go_wp2_with fail
          go_ret2
          exact TakC.nil HBAD.out HO4.out
      · have hke : k = x := by omega
        subst hke
        clear hlt
        have HE := Lib.hid (HGOOD.out (okA_true.2 HOK.out))
        have hnl : (k : Int) ≤ (k : Int) := by omega
        go_wp2_with fail
        go_ret2
        unfold TakC
        rw [HE.out]
        refine ⟨A', c', hs, by simp, ⟨by rw [HHL.out]; simp, ?_, fun i h l h1 h2 => ?_, fun i h l h1 h2 => ?_⟩, ⟨fun ad he => ?_, fun h hh ad he => ?_⟩, HO.out⟩
        · have := Reads.of_own HOW.out
          simpa using this
        · rw [List.getElem?_map] at h2
          cases hri : (List.range k)[i]? with
          | none => rw [hri] at h2; cases h2
          | some j =>
            rw [hri] at h2
            simp at h2
            subst h2
            obtain ⟨h3, h4⟩ := List.getElem?_eq_some_iff.1 hri
            simp at h4
            subst h4
            rw [rowN_len]
            exact (HRW.out i h h1).1
        · have e2 := List.mem_of_getElem? h2
          rw [List.mem_map] at e2
          obtain ⟨_, _, rfl⟩ := e2
          rw [rowN_len]
          exact HCP.out h (List.mem_of_getElem? h1)
        · subst he
          exact (HFP.out ad.block (by simp [rowFp, Value.ownBlock])).1
        · obtain ⟨i, hi⟩ := List.getElem?_of_mem hh
          exact ((HRW.out i h hi).2 ad he).1
end Go.Proofs.Ytmojlfgfaabegaa
