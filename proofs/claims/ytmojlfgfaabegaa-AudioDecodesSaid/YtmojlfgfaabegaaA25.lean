/- The reference's Decode. -/
import Derived.Test.YtmojlfgfaabegaaA24
namespace Go.Proofs.Ytmojlfgfaabegaa
open Go.RowKit bt

section
variable {o : Oper} {a : Act} {w : World} {K : Act → World → Prop} {Q : Exit → Act → World → Prop} {X Y Z : Operand}
theorem op_front {t e : TypeId} (ht : Try.prog.underlying t = some (.slice e)) (hs : (Try.prog.info? e).map (·.size) = some 1) {A : Option Addr} {n c : Nat} (m : Nat) (h2 : m ≤ c) (ho : o.op = .slice t X none (some Z) none) (hx : a.eval X = .slice A n c) (hz : a.eval Z = .int .i64 (m : Int))
    (k : K (a.put o.dst (.slice A m c)) w) : o.wp Try.prog a w K Q := by
  unfold Oper.wp execOp
  simp only [ho, Option.map_some, Option.map_none, hx, hz, Sem.run_bind, run_front ht hs w A n c m h2, Result.andThen_ok]
  exact k
end
theorem DE_hd {p : List Nat} {r : Int} (h : HD p = ((0, 0), r)) (hr : r ≠ 0) : DE p = ([], [], r) := by
  unfold DE
  rw [h]
  simp only
  rw [if_neg hr]
theorem DE_ok {p : List Nat} {ch n : Nat} (h : HD p = ((ch, n), 0)) : DE p = if nblk n * szN ch < p.length - 10 then ([], [], 3) else ((List.range ch).map (fun c => rowTo p ch n (szN ch) c (nblk n)), badTo p ch n (szN ch) (nblk n), 0) := by
  unfold DE
  rw [h]
  simp only [if_true]
theorem sum_ten {p : List Nat} (h : 10 ≤ p.length) (hp : ∀ x ∈ p, x < 256) : (p.take 10 = sm (p.take 8)) ↔ crc (p.take 8) = p.getD 8 0 * 256 + p.getD 9 0 := by
  have hl : (p.take 10).length = 10 := by simp; omega
  have h1 := sum_same (p := p.take 10) (by omega) (fun x hx => hp x (List.mem_of_mem_take hx))
  rw [hl] at h1
  have e8 : (p.take 10).take (10 - 2) = p.take 8 := by rw [List.take_take]; rfl
  have g : ∀ i, i < 10 → (p.take 10).getD i 0 = p.getD i 0 := fun i hi => by rw [List.getD_eq_getElem?_getD, List.getD_eq_getElem?_getD, List.getElem?_take, if_pos hi]
  rw [e8, g (10 - 2) (by omega), g (10 - 1) (by omega)] at h1
  exact h1
set_option maxRecDepth 100000 in
set_option maxHeartbeats 8000000 in
theorem refDecode_any (w : World) (P0 : Option Addr) (c : Nat) (p : List Nat) (hr : Reads w P0 1 p.length (bytesV p)) (hc : p.length ≤ c) (hp : ∀ x ∈ p, x < 256) (hl : p.length ≤ 1000000000) :
    Calls Try.prog 29 #[.slice P0 p.length c] w (DecC p w) := by
  obtain ⟨i0, hi0, hz0, hz1, hz2⟩ := info_parts info_i16
  obtain ⟨i1, hi1, hy0, hy1, hy2⟩ := info_parts info_s16
  obtain ⟨i2, hi2, hx0, hx1, hx2⟩ := info_parts info_int
  have HRD := Lib.hid hr
  have HPX := Lib.hid hp
  clear hr hp
  go_enter Try.func29, Try.ntmps29
  by_cases h10 : p.length < 10
  · have HE := Lib.hid (show DE p = ([], [], 4) from DE_hd (by unfold HD; rw [if_pos h10]) (by decide))
    have h10' : (p.length : Int) < 10 := by omega
    clear h10
    go_wp2_with fail
    go_ret3
    exact DecC.nil HE.out (Only.refl _ _)
  have h10p : 10 ≤ p.length := by omega
  have h10d : decide ((p.length : Int) < 10) = false := decide_eq_false (by omega)
  obtain ⟨b, off, rfl, hcell⟩ := HRD.out.plain (by omega) (by omega)
  have hget : ∀ i, i < 10 → w.cell? ⟨b, off + i, none⟩ = some (.int .u8 (p.getD i 0 : Int)) ∧ p.getD i 0 < 256 := fun i hi => by
    have h1 := get_of_lt (p := p) (i := i) (by omega)
    exact ⟨hcell i _ (by simp only [bytesV, List.getElem?_map, h1]; rfl), HPX.out _ (List.mem_of_getElem? h1)⟩
  obtain ⟨c4, hx4⟩ := hget 4 (by omega)
  obtain ⟨c5, hx5⟩ := hget 5 (by omega)
  obtain ⟨c6, hx6⟩ := hget 6 (by omega)
  obtain ⟨c7, hx7⟩ := hget 7 (by omega)
  have hNe : hN p = p.getD 5 0 * 65536 + p.getD 6 0 * 256 + p.getD 7 0 := rfl
  obtain ⟨x4, h4⟩ : ∃ x4, x4 = p.getD 4 0 := ⟨_, rfl⟩
  obtain ⟨x5, h5⟩ : ∃ x5, x5 = p.getD 5 0 := ⟨_, rfl⟩
  obtain ⟨x6, h6⟩ : ∃ x6, x6 = p.getD 6 0 := ⟨_, rfl⟩
  obtain ⟨x7, h7⟩ : ∃ x7, x7 = p.getD 7 0 := ⟨_, rfl⟩
  obtain ⟨n, hn⟩ : ∃ n, n = hN p := ⟨_, rfl⟩
  rw [← h4] at c4 hx4
  rw [← h5] at c5 hx5 hNe
  rw [← h6] at c6 hx6 hNe
  rw [← h7] at c7 hx7 hNe
  rw [← hn] at hNe
  obtain ⟨z1, hz1'⟩ : ∃ z1, z1 = x5 * 65536 + x6 * 256 := ⟨_, rfl⟩
  have o1 : bits .or .i64 ((x5 : Int) * 65536) ((x6 : Int) * 256) = (z1 : Int) := by
    rw [show (x5 : Int) * 65536 = ((x5 * 65536 : Nat) : Int) by omega, show (x6 : Int) * 256 = ((x6 * 256 : Nat) : Int) by omega, i64_or_nat _ _ (by omega) (by omega), hz1', show (65536 : Nat) = 2 ^ 16 from rfl, or_add _ _ _ (by omega)]
  have o2 : bits .or .i64 (z1 : Int) (x7 : Int) = (n : Int) := by
    rw [i64_or_nat _ _ (by omega) (by omega), hNe, hz1', show x5 * 65536 + x6 * 256 = (x5 * 256 + x6) * 2 ^ 8 by omega, or_add _ _ _ (by omega)]
  have hnb : n < 16777216 := by omega
  have hz1b : z1 < 16777216 := by omega
  have H4 := Lib.hid h4
  have HN := Lib.hid hn
  have f40 : ∀ w', Cls w w' → w'.cell? ⟨b, off + 4, none⟩ = some (.int .u8 (x4 : Int)) := fun w' h => h.cell c4
  have f50 : ∀ w', Cls w w' → w'.cell? ⟨b, off + 5, none⟩ = some (.int .u8 (x5 : Int)) := fun w' h => h.cell c5
  have f60 : ∀ w', Cls w w' → w'.cell? ⟨b, off + 6, none⟩ = some (.int .u8 (x6 : Int)) := fun w' h => h.cell c6
  have f70 : ∀ w', Cls w w' → w'.cell? ⟨b, off + 7, none⟩ = some (.int .u8 (x7 : Int)) := fun w' h => h.cell c7
  have i4 : (4 : Int) < (p.length : Int) := by omega
  have i5 : (5 : Int) < (p.length : Int) := by omega
  have i6 : (6 : Int) < (p.length : Int) := by omega
  have i7 : (7 : Int) < (p.length : Int) := by omega
  clear hget hcell c4 c5 c6 c7 h4 h5 h6 h7 hn hNe h10 hz1'
  go_wp2_with fail
  clear h10d
  refine rgn (Cls w) (by kernel_rfl) (by kernel_rfl) Cls.refl ?_
  refine qW (.slice (some ⟨b, off, none⟩) p.length c) rfl rfl (fun w hC K hK => ?_) ?_
  · have f4 := f40 w hC; have f5 := f50 w hC; have f6 := f60 w hC; have f7 := f70 w hC; (go_wp2_with fail) <;> (first | exact hC | exact hK _ hC)
  simp only [Act.put, List.setIfInBounds_toArray, List.set_cons_zero, List.set_cons_succ]
  refine qW (.pointer (some ⟨b, off + 4, none⟩)) rfl rfl (fun w hC K hK => ?_) ?_
  · have f4 := f40 w hC; have f5 := f50 w hC; have f6 := f60 w hC; have f7 := f70 w hC; (go_wp2_with fail) <;> (first | exact hC | exact hK _ hC)
  simp only [Act.put, List.setIfInBounds_toArray, List.set_cons_zero, List.set_cons_succ]
  refine qW (.int .u8 (x4 : Int)) rfl rfl (fun w hC K hK => ?_) ?_
  · have f4 := f40 w hC; have f5 := f50 w hC; have f6 := f60 w hC; have f7 := f70 w hC; (go_wp2_with fail) <;> (first | exact hC | exact hK _ hC)
  simp only [Act.put, List.setIfInBounds_toArray, List.set_cons_zero, List.set_cons_succ]
  refine qW (.int .i64 (x4 : Int)) rfl rfl (fun w hC K hK => ?_) ?_
  · have f4 := f40 w hC; have f5 := f50 w hC; have f6 := f60 w hC; have f7 := f70 w hC; (go_wp2_with fail) <;> (first | exact hC | exact hK _ hC)
  simp only [Act.put, List.setIfInBounds_toArray, List.set_cons_zero, List.set_cons_succ]
  refine qW (.slice (some ⟨b, off, none⟩) p.length c) rfl rfl (fun w hC K hK => ?_) ?_
  · have f4 := f40 w hC; have f5 := f50 w hC; have f6 := f60 w hC; have f7 := f70 w hC; (go_wp2_with fail) <;> (first | exact hC | exact hK _ hC)
  simp only [Act.put, List.setIfInBounds_toArray, List.set_cons_zero, List.set_cons_succ]
  refine qW (.pointer (some ⟨b, off + 5, none⟩)) rfl rfl (fun w hC K hK => ?_) ?_
  · have f4 := f40 w hC; have f5 := f50 w hC; have f6 := f60 w hC; have f7 := f70 w hC; (go_wp2_with fail) <;> (first | exact hC | exact hK _ hC)
  simp only [Act.put, List.setIfInBounds_toArray, List.set_cons_zero, List.set_cons_succ]
  refine qW (.int .u8 (x5 : Int)) rfl rfl (fun w hC K hK => ?_) ?_
  · have f4 := f40 w hC; have f5 := f50 w hC; have f6 := f60 w hC; have f7 := f70 w hC; (go_wp2_with fail) <;> (first | exact hC | exact hK _ hC)
  simp only [Act.put, List.setIfInBounds_toArray, List.set_cons_zero, List.set_cons_succ]
  refine qW (.int .i64 (x5 : Int)) rfl rfl (fun w hC K hK => ?_) ?_
  · have f4 := f40 w hC; have f5 := f50 w hC; have f6 := f60 w hC; have f7 := f70 w hC; (go_wp2_with fail) <;> (first | exact hC | exact hK _ hC)
  simp only [Act.put, List.setIfInBounds_toArray, List.set_cons_zero, List.set_cons_succ]
  refine qW (.int .i64 ((x5 : Int) * 65536)) rfl rfl (fun w hC K hK => ?_) ?_
  · have f4 := f40 w hC; have f5 := f50 w hC; have f6 := f60 w hC; have f7 := f70 w hC; (go_wp2_with fail) <;> (first | exact hC | exact hK _ hC)
  simp only [Act.put, List.setIfInBounds_toArray, List.set_cons_zero, List.set_cons_succ]
  refine qW (.slice (some ⟨b, off, none⟩) p.length c) rfl rfl (fun w hC K hK => ?_) ?_
  · have f4 := f40 w hC; have f5 := f50 w hC; have f6 := f60 w hC; have f7 := f70 w hC; (go_wp2_with fail) <;> (first | exact hC | exact hK _ hC)
  simp only [Act.put, List.setIfInBounds_toArray, List.set_cons_zero, List.set_cons_succ]
  refine qW (.pointer (some ⟨b, off + 6, none⟩)) rfl rfl (fun w hC K hK => ?_) ?_
  · have f4 := f40 w hC; have f5 := f50 w hC; have f6 := f60 w hC; have f7 := f70 w hC; (go_wp2_with fail) <;> (first | exact hC | exact hK _ hC)
  simp only [Act.put, List.setIfInBounds_toArray, List.set_cons_zero, List.set_cons_succ]
  refine qW (.int .u8 (x6 : Int)) rfl rfl (fun w hC K hK => ?_) ?_
  · have f4 := f40 w hC; have f5 := f50 w hC; have f6 := f60 w hC; have f7 := f70 w hC; (go_wp2_with fail) <;> (first | exact hC | exact hK _ hC)
  simp only [Act.put, List.setIfInBounds_toArray, List.set_cons_zero, List.set_cons_succ]
  refine qW (.int .i64 (x6 : Int)) rfl rfl (fun w hC K hK => ?_) ?_
  · have f4 := f40 w hC; have f5 := f50 w hC; have f6 := f60 w hC; have f7 := f70 w hC; (go_wp2_with fail) <;> (first | exact hC | exact hK _ hC)
  simp only [Act.put, List.setIfInBounds_toArray, List.set_cons_zero, List.set_cons_succ]
  refine qW (.int .i64 ((x6 : Int) * 256)) rfl rfl (fun w hC K hK => ?_) ?_
  · have f4 := f40 w hC; have f5 := f50 w hC; have f6 := f60 w hC; have f7 := f70 w hC; (go_wp2_with fail) <;> (first | exact hC | exact hK _ hC)
  simp only [Act.put, List.setIfInBounds_toArray, List.set_cons_zero, List.set_cons_succ]
  refine qW (.int .i64 (z1 : Int)) rfl rfl (fun w hC K hK => ?_) ?_
  · have f4 := f40 w hC; have f5 := f50 w hC; have f6 := f60 w hC; have f7 := f70 w hC; (go_wp2_with fail) <;> (first | exact hC | exact hK _ hC)
  simp only [Act.put, List.setIfInBounds_toArray, List.set_cons_zero, List.set_cons_succ]
  refine qW (.slice (some ⟨b, off, none⟩) p.length c) rfl rfl (fun w hC K hK => ?_) ?_
  · have f4 := f40 w hC; have f5 := f50 w hC; have f6 := f60 w hC; have f7 := f70 w hC; (go_wp2_with fail) <;> (first | exact hC | exact hK _ hC)
  simp only [Act.put, List.setIfInBounds_toArray, List.set_cons_zero, List.set_cons_succ]
  refine qW (.pointer (some ⟨b, off + 7, none⟩)) rfl rfl (fun w hC K hK => ?_) ?_
  · have f4 := f40 w hC; have f5 := f50 w hC; have f6 := f60 w hC; have f7 := f70 w hC; (go_wp2_with fail) <;> (first | exact hC | exact hK _ hC)
  simp only [Act.put, List.setIfInBounds_toArray, List.set_cons_zero, List.set_cons_succ]
  refine qW (.int .u8 (x7 : Int)) rfl rfl (fun w hC K hK => ?_) ?_
  · have f4 := f40 w hC; have f5 := f50 w hC; have f6 := f60 w hC; have f7 := f70 w hC; (go_wp2_with fail) <;> (first | exact hC | exact hK _ hC)
  simp only [Act.put, List.setIfInBounds_toArray, List.set_cons_zero, List.set_cons_succ]
  refine qW (.int .i64 (x7 : Int)) rfl rfl (fun w hC K hK => ?_) ?_
  · have f4 := f40 w hC; have f5 := f50 w hC; have f6 := f60 w hC; have f7 := f70 w hC; (go_wp2_with fail) <;> (first | exact hC | exact hK _ hC)
  simp only [Act.put, List.setIfInBounds_toArray, List.set_cons_zero, List.set_cons_succ]
  refine qW (.int .i64 (n : Int)) rfl rfl (fun w hC K hK => ?_) ?_
  · have f4 := f40 w hC; have f5 := f50 w hC; have f6 := f60 w hC; have f7 := f70 w hC; (go_wp2_with fail) <;> (first | exact hC | exact hK _ hC)
  simp only [Act.put, List.setIfInBounds_toArray, List.set_cons_zero, List.set_cons_succ]
  refine qW (.int .i64 (x4 : Int)) rfl rfl (fun w hC K hK => ?_) ?_
  · have f4 := f40 w hC; have f5 := f50 w hC; have f6 := f60 w hC; have f7 := f70 w hC; (go_wp2_with fail) <;> (first | exact hC | exact hK _ hC)
  simp only [Act.put, List.setIfInBounds_toArray, List.set_cons_zero, List.set_cons_succ]
  refine qW (.int .i64 (n : Int)) rfl rfl (fun w hC K hK => ?_) ?_
  · have f4 := f40 w hC; have f5 := f50 w hC; have f6 := f60 w hC; have f7 := f70 w hC; (go_wp2_with fail) <;> (first | exact hC | exact hK _ hC)
  simp only [Act.put, List.setIfInBounds_toArray, List.set_cons_zero, List.set_cons_succ]
  refine qN ?_
  intro w2 hw2

  have HO2 := Lib.hid (show Only [] w w2 from hw2)
  clear f40 f50 f60 f70 o1 o2 hw2 i4 i5 i6 i7
  have R4 : Reads w2 (some ⟨b, off, none⟩) 1 4 (bytesV (p.take 4)) := by
    have := (HRD.out.then HO2.out).front (k := 4) (by omega)
    simpa [bytesV] using this
  have hcv := run_conv (c := c) R4
  have hp4 : ∀ x ∈ p.take 4, x < 256 := fun x hx => HPX.out x (List.mem_of_mem_take hx)
  have hstr : ((strOf (p.take 4)).toList == [67, 82, 83, 68]) = decide (p.take 4 = [67, 82, 83, 68]) := by
    rw [strOf_toList, Bool.eq_iff_iff]
    simp only [beq_iff_eq, decide_eq_true_eq]
    constructor
    · intro h
      exact ofNat_inj (p.take 4) [67, 82, 83, 68] hp4 (by decide) (by rw [h]; rfl)
    · intro h; rw [h]; rfl
  have HHE3 := Lib.hid (show ¬ (p.take 4 = [67, 82, 83, 68] ∧ (1 ≤ p.getD 4 0 ∧ p.getD 4 0 ≤ 4) ∧ hN p ≤ 1048576) → DE p = ([], [], 3) from fun h => DE_hd (by unfold HD; rw [if_neg (by omega), if_neg h]) (by decide))
  clear R4 hp4
  by_cases hsig : p.take 4 = [67, 82, 83, 68]
  rotate_left
  · have HE := Lib.hid (HHE3.out (fun h => hsig h.1))
    rw [decide_eq_false hsig] at hstr
    clear hsig
    generalize strOf (p.take 4) = sg at hstr hcv
    have tok : True := trivial
    go_wp2_with (first | (clear tok; refine arm_front Try.underlying22 sz_u8 4 (by omega) rfl rfl rfl rfl ?_))
    go_ret3
    exact DecC.nil HE.out HO2.out
  rw [decide_eq_true hsig] at hstr
  have HSG := Lib.hid hsig
  clear hsig
  generalize strOf (p.take 4) = sg at hstr hcv
  by_cases hx1c : x4 < 1
  · have HE := Lib.hid (HHE3.out (fun h => by have := h.2.1.1; rw [← H4.out] at this; omega))
    have hx1c' : (x4 : Int) < 1 := by omega
    clear hx1c
    have tok : True := trivial
    go_wp2_with (first | (clear tok; refine arm_front Try.underlying22 sz_u8 4 (by omega) rfl rfl rfl rfl ?_))
    go_ret3
    exact DecC.nil HE.out HO2.out
  have hxd1 : decide ((x4 : Int) < 1) = false := decide_eq_false (by omega)
  by_cases hx2c : 4 < x4
  · have HE := Lib.hid (HHE3.out (fun h => by have := h.2.1.2; rw [← H4.out] at this; omega))
    have hx2c' : (4 : Int) < (x4 : Int) := by omega
    clear hx1c hx2c
    have tok : True := trivial
    go_wp2_with (first | (clear tok; refine arm_front Try.underlying22 sz_u8 4 (by omega) rfl rfl rfl rfl ?_))
    go_ret3
    exact DecC.nil HE.out HO2.out
  have hxd2 : decide ((4 : Int) < (x4 : Int)) = false := decide_eq_false (by omega)
  by_cases hn3c : 1048576 < n
  · have HE := Lib.hid (HHE3.out (fun h => by have := h.2.2; rw [← HN.out] at this; omega))
    have hn3c' : (1048576 : Int) < (n : Int) := by omega
    clear hx1c hx2c hn3c
    have tok : True := trivial
    go_wp2_with (first | (clear tok; refine arm_front Try.underlying22 sz_u8 4 (by omega) rfl rfl rfl rfl ?_))
    go_ret3
    exact DecC.nil HE.out HO2.out
  have hnd3 : decide ((1048576 : Int) < (n : Int)) = false := decide_eq_false (by omega)
  have HC0 := Lib.hid (show p.take 4 = [67, 82, 83, 68] ∧ (1 ≤ p.getD 4 0 ∧ p.getD 4 0 ≤ 4) ∧ hN p ≤ 1048576 by rw [← H4.out, ← HN.out]; exact ⟨HSG.out, by omega, by omega⟩)
  have hch : 1 ≤ x4 ∧ x4 ≤ 4 := by omega
  have hnm : n ≤ 1048576 := by omega
  clear hx1c hx2c hn3c HHE3
  have HS10 := Lib.hid (sum_ten h10p HPX.out)
  have R8 := Lib.hid (show Reads w2 (some ⟨b, off, none⟩) 1 (p.take 8).length (bytesV (p.take 8)) by
    have := (HRD.out.then HO2.out).front (k := 8) (by omega)
    rw [List.length_take, Nat.min_eq_left (by omega)]
    simpa [bytesV] using this)
  have R10 := Lib.hid (show Reads w2 (some ⟨b, off, none⟩) 1 10 (bytesV (p.take 10)) by
    have := (HRD.out.then HO2.out).front (k := 10) (by omega)
    simpa [bytesV] using this)
  have H8L := Lib.hid (show (p.take 8).length = 8 by rw [List.length_take, Nat.min_eq_left (by omega)])
  have H8X := Lib.hid (show ∀ z ∈ p.take 8, z < 256 from fun z hz => HPX.out z (List.mem_of_mem_take hz))
  have H10X := Lib.hid (show ∀ z ∈ p.take 10, z < 256 from fun z hz => HPX.out z (List.mem_of_mem_take hz))
  have HEB := Lib.hid (show ¬ crc (p.take 8) = p.getD 8 0 * 256 + p.getD 9 0 → DE p = ([], [], 10) from fun h => DE_hd (by unfold HD; rw [if_neg (by omega), if_pos HC0.out, if_neg h]) (by decide))
  have HEG := Lib.hid (show crc (p.take 8) = p.getD 8 0 * 256 + p.getD 9 0 → HD p = ((x4, n), 0) from fun h => by unfold HD; rw [if_neg (by omega), if_pos HC0.out, if_pos h, H4.out, HN.out])
  generalize p.take 8 = q8 at HS10 R8 H8L H8X HEB HEG
  generalize p.take 10 = q10 at HS10 R10 H10X
  generalize p.getD 8 0 * 256 + p.getD 9 0 = S8 at HS10 HEB HEG
  have h8l := H8L.out
  have tok : True := trivial
  go_wp2_with (first | (clear tok; refine arm_front Try.underlying22 sz_u8 4 (by omega) rfl rfl rfl rfl ?_))
  clear hcv hstr hxd1 hxd2 hnd3
  refine rgnM (Cls w2) [(0, true), (1, true), (2, true), (3, true), (4, false), (5, false), (6, true)] (by kernel_rfl) (by kernel_rfl) Cls.refl ?_
  simp only [pickL, nth]
  refine mW (.slice (some ⟨b, off, none⟩) p.length c) rfl rfl (fun w hC K hK => ?_) rfl ?_
  · (go_wp2_with fail) <;> exact hK
  simp only [Act.put, List.setIfInBounds_toArray, List.set_cons_zero, List.set_cons_succ]
  refine mW (.slice (some ⟨b, off, none⟩) 10 c) rfl rfl (fun w hC K hK => ?_) rfl ?_
  · refine op_front Try.underlying22 sz_u8 10 (by omega) rfl rfl rfl ?_
    exact hK
  simp only [Act.put, List.setIfInBounds_toArray, List.set_cons_zero, List.set_cons_succ]
  refine mW (.slice (some ⟨b, off, none⟩) p.length c) rfl rfl (fun w hC K hK => ?_) rfl ?_
  · (go_wp2_with fail) <;> exact hK
  simp only [Act.put, List.setIfInBounds_toArray, List.set_cons_zero, List.set_cons_succ]
  refine mW (.slice (some ⟨b, off, none⟩) 8 c) rfl rfl (fun w hC K hK => ?_) rfl ?_
  · refine op_front Try.underlying22 sz_u8 8 (by omega) rfl rfl rfl ?_
    exact hK
  simp only [Act.put, List.setIfInBounds_toArray, List.set_cons_zero, List.set_cons_succ]
  refine mC (show Calls Try.prog 37 #[.slice (some ⟨b, off, none⟩) 8 c] w2.drew _ from by have := summed_any w2.drew (some ⟨b, off, none⟩) c q8 R8.out.drew H8X.out (by omega); rw [h8l] at this; exact this) rfl (fun w => ?_) ?_
  · go_simp; try rfl
  rintro e w3 ⟨A3, c3, rfl, own3, o3, f3⟩
  have ho3 : Cls w2 w3 := Cls.then Cls.refl o3
  refine ⟨_, rfl, ho3, ?_⟩
  simp only [Act.put, List.setIfInBounds_toArray, List.set_cons_zero, List.set_cons_succ]
  refine mC (same_any w3 (some ⟨b, off, none⟩) A3 10 (8 + 2) c c3 q10 (sm q8) (ho3.reads R10.out) (Reads.of_own own3) H10X.out (sm_lt H8X.out)) rfl (fun w => ?_) ?_
  · go_simp; try rfl
  rintro e w4 ⟨rfl, rfl⟩
  refine ⟨_, rfl, ho3, ?_⟩
  simp only [Act.put, List.setIfInBounds_toArray, List.set_cons_zero, List.set_cons_succ]
  obtain ⟨T, hT⟩ : ∃ T, T = decide (q10 = sm q8) := ⟨_, rfl⟩
  rw [← hT]
  have HT := Lib.hid hT
  clear hT
  refine mW (.bool (!T)) rfl rfl (fun w hC K hK => ?_) rfl ?_
  · (go_wp2_with fail) <;> exact hK
  simp only [Act.put, List.setIfInBounds_toArray, List.set_cons_zero, List.set_cons_succ]
  refine mN ?_
  have HO3 := Lib.hid (HO2.out.then ho3)
  clear own3 f3 o3 ho3
  rename World => w3

  by_cases hsum : crc q8 = S8
  rotate_left
  · have HE := Lib.hid (HEB.out hsum)
    have hTt : T = false := by rw [HT.out, decide_eq_false (fun h => hsum (HS10.out.1 h))]
    subst hTt
    clear hsum
    go_wp2_with fail
    go_ret3
    exact DecC.nil HE.out HO3.out
  have hTt : T = true := by rw [HT.out, decide_eq_true (HS10.out.2 hsum)]
  subst hTt
  have HDE := Lib.hid (DE_ok (HEG.out hsum))
  clear hsum HEB HEG HS10 R8 R10 H8L H8X H10X HC0 HSG HT
  go_wp2_with fail
  refine (refBlockSize_any _ (x4 : Int) (by omega)).mono ?_
  rintro e w4 ⟨rfl, rfl⟩
  rename World => w3
  rw [bsz_nat hch.1 hch.2]
  obtain ⟨S, hS⟩ : ∃ S, S = szN x4 := ⟨_, rfl⟩
  rw [show 5 + x4 * 292 / 8 = S from hS.symm]
  have hS1 : 41 ≤ S ∧ S ≤ 151 := by rw [hS]; unfold szN; omega
  obtain ⟨NB, hNB⟩ : ∃ NB, NB = nblk n := ⟨_, rfl⟩
  obtain ⟨L, hL⟩ : ∃ L, L = p.length - 10 := ⟨_, rfl⟩
  have HDE' := HDE.out
  rw [← hS, ← hNB, ← hL] at HDE'
  have hNB1 : NB = (n + 31) / 32 := hNB
  have hNBl : NB ≤ 32768 := by omega
  have HQ2 := Lib.hid (show ((n : Int) + 32 - 1) / 32 = (NB : Int) by omega)
  have hpb : NB * S ≤ 4947968 := prod_le hNBl hS1.2
  obtain ⟨PS, hPS⟩ : ∃ PS, PS = NB * S := ⟨_, rfl⟩
  have e1 : wrap64 ((S : Int) * (NB : Int)) = (PS : Int) := by rw [← Int.natCast_mul, Nat.mul_comm, prod_in hpb, hPS]
  have hLi : (p.length : Int) - 10 = (L : Int) := by omega
  have HPS := Lib.hid hPS
  rw [← hPS] at hpb HDE'
  have HSS := Lib.hid hS
  have HNB := Lib.hid hNB
  have HLL := Lib.hid hL
  clear hS hNB hPS hNB1 HDE hL
  by_cases hbig : PS < L
  · have HE := Lib.hid (show DE p = ([], [], 3) by rw [HDE', if_pos hbig])
    have hbig' : (PS : Int) < (p.length : Int) - 10 := by rw [hLi]; exact Int.ofNat_lt.2 hbig
    clear hLi
    clear hbig HDE'
    have tok : True := trivial
    go_wp2_with (clear tok; rw [HQ2.out])
    go_ret3
    exact DecC.nil HE.out HO3.out
  have hbig' : decide ((PS : Int) < (p.length : Int) - 10) = false := decide_eq_false (by rw [hLi]; exact fun h => hbig (Int.ofNat_lt.1 h))
  clear hLi
  have HE := Lib.hid (show DE p = ((List.range x4).map (fun c => rowTo p x4 n S c NB), badTo p x4 n S NB, 0) by rw [HDE', if_neg hbig])
  clear hbig HDE'
  have tok : True := trivial
  go_wp2_with (first | (clear tok; rw [HQ2.out]) | (at_make; refine wpList_mk _ rfl _ _ 28 rfl 39 i1 (.slice none 0 0) Try.underlying28 hi1 hy0 hy1 rfl _ _ _ _ x4 rfl rfl rfl rfl (by rw [hy2]; omega) (by unfold maxLen; omega) ?_))
  intro w6 hb6 o6 hs6
  clear hbig' e1
  obtain ⟨gp, hgp⟩ : ∃ gp, gp = w3.heap.size := ⟨_, rfl⟩
  rw [← hgp] at hb6 ⊢
  have HR0 := Lib.hid (Rs.start hb6 (by have := HO3.out.size; omega) (HO3.out.then o6))
  have HBL := Lib.hid (badTo_len p x4 n S)
  have HRL := Lib.hid (show ∀ c k, c < x4 → 32 * k < n → (rowTo p x4 n S c k).length = 32 * k from fun c k hc' hk => by rw [rowTo_len hc' k (by omega)]; omega)
  have HKN := Lib.hid (show ∀ k, k < NB → 32 * k < n from fun k hk => by have := HNB.out; unfold nblk at this; omega)
  clear hb6 o6 hs6 hgp HQ2 HLL
  go_wp2_with fail
  go_loopw [10, 11] (fun bv kv wr => ∃ k : Nat, k ≤ NB ∧ kv = .int .i64 (k : Int) ∧ ∃ B cb, bv = .slice B (badTo p x4 n S k).length cb ∧ ∃ H, Hid (Rs w gp x4 H (fun c => rowTo p x4 n S c k) wr) ∧ Hid (wr.ownsRow 0 3 1 (.slice B (badTo p x4 n S k).length cb) (badTo p x4 n S k).length (iV (badTo p x4 n S k))) ∧ Hid (Fresh w [] (rowFp (.slice B (badTo p x4 n S k).length cb)))) (fun _ kv _ => NB - (intOf kv).toNat)
  case atStart => exact ⟨0, Nat.zero_le _, rfl, none, 0, rfl, _, HR0, Lib.hid (World.ownsRow_nil _ _ _ _), Lib.hid (fun x hx => by simp [rowFp, Value.ownBlock] at hx)⟩
  case round =>
    obtain ⟨k, hk, rfl, B, cb, rfl, H, HR, HB, HF⟩ := hrel
    by_cases hkN : k < NB
    · have hki : (k : Int) < (NB : Int) := by omega
      have h32 := HKN.out k hkN
      have hbl := HBL.out k
      have hkb : k ≤ 32768 := by omega
      obtain ⟨W, hW⟩ : ∃ W, W = want n k := ⟨_, rfl⟩
      have hWe : W = min 32 (n - 32 * k) := hW
      have HWI := Lib.hid (show (if (n : Int) - (k : Int) * 32 < 32 then (n : Int) - (k : Int) * 32 else 32) = (W : Int) by split <;> omega)
      have hW32 : 1 ≤ W ∧ W ≤ 32 := by omega
      obtain ⟨Q, hQ⟩ : ∃ Q, Q = k * S := ⟨_, rfl⟩
      have hQb : k * S ≤ 4947968 := prod_le hkb hS1.2
      have e2 : wrap64 ((k : Int) * (S : Int)) = (Q : Int) := by rw [← Int.natCast_mul, prod_in hQb, hQ]
      have hQb' : Q ≤ 4947968 := by rw [hQ]; exact hQb
      have HW := Lib.hid hW
      have HQQ := Lib.hid hQ
      clear hWe hW hQ hQb
      obtain ⟨J, hJ⟩ : ∃ J, J = 10 + Q := ⟨_, rfl⟩
      have hJi : (10 : Int) + (Q : Int) = (J : Int) := by omega
      have hJb : J ≤ 4947978 := by omega
      have HJ := Lib.hid hJ
      clear hJ
      by_cases hsh : p.length < J + S
      · have HOK := Lib.hid (okB_short (p := p) (n := n) (k := k) HSS.out (by rw [← HQQ.out, ← HJ.out]; exact hsh))
        have hshd : decide ((J : Int) + (S : Int) ≤ (p.length : Int)) = false := decide_eq_false (by omega)
        clear hsh
        have HBN := Lib.hid (badTo_no HOK.out)
        have HRN := Lib.hid (rowTo_no HOK.out)
        obtain ⟨bd, hbd⟩ : ∃ bd, bd = badTo p x4 n S k := ⟨_, rfl⟩
        rw [← hbd] at HB HF HBN hbl ⊢
        clear hbd HOK
        have tok : True := trivial
        go_wp2_with (first | (clear tok; refine arm_min 32 ((n : Int) - (k : Int) * 32) (W : Int) HWI.out rfl rfl rfl rfl ?_) | (at_builtin; refine wpList_app _ rfl _ _ 41 rfl 3 i2 (.int .i64 0) 1 8 Try.underlying41 hi2 hx0 hx1 hx2 rfl (by decide) B bd.length cb (iV bd) rfl (own_only HB.out ((Only.refl [] _).alloc _) (by simp)) _ 1 1 [.int .i64 (k : Int)] rfl (Reads.one _ _ _) (by simp [Value.oneCell']) (by unfold maxLen; omega) (by omega) ?_))
        intro B9 cb9 w9 ownB9 oB9 fB9
        obtain ⟨hr9, hf9⟩ := (HR.out.then ((Only.refl [] _).alloc _)).num (own_only HB.out ((Only.refl [] _).alloc _) (by simp)) HF.out oB9 fB9
        have HR9 := Lib.hid hr9
        have HF9 := Lib.hid hf9
        have HB9 := Lib.hid (show w9.ownsRow 0 3 1 (.slice B9 (bd.length + 1) cb9) (bd.length + 1) (iV (bd ++ [(k : Int)])) by
          have : iV (bd ++ [(k : Int)]) = iV bd ++ [.int .i64 (k : Int)] := by simp [iV]
          rw [this]; exact ownB9)
        clear ownB9 oB9 fB9 hr9 hf9 HR HB HF
        go_wp2_with fail
        go_loopw [18] (fun jv wr => ∃ j : Nat, j ≤ x4 ∧ jv = .int .i64 (j : Int) ∧ ∃ H, Hid (Rs w gp x4 H (rmid p x4 n S k j) wr) ∧ Hid (wr.ownsRow 0 3 1 (.slice B9 (bd.length + 1) cb9) (bd.length + 1) (iV (bd ++ [(k : Int)])))) (fun jv _ => x4 - (intOf jv).toNat)
        case atStart => exact ⟨0, Nat.zero_le _, rfl, _, Lib.hid (by rw [rmid_zero]; exact HR9.out), HB9⟩
        case round =>
          obtain ⟨j, hj, rfl, H5, HR5, HB5⟩ := hrel
          by_cases hjc : j < x4
          · have hji : (j : Int) < (x4 : Int) := by omega
            have hrl := HRL.out j k hjc h32
            have hcell := HR5.out.cell hjc
            have hown := HR5.out.own j hjc
            have hgrow := fun (n' c' : Nat) (A' : Option Addr) (ys : List Value) (l' : List Int) (w1 : World) => HR5.out.grow (w1 := w1) (n' := n') (c' := c') (A' := A') (ys := ys) (l' := l') hjc HB5.out
            rw [rmid_at, hrl] at hcell hown hgrow
            rcases hH : H5 j with ⟨A5, c5⟩
            rw [hH] at hcell hown hgrow
            simp only at hcell hown hgrow
            obtain ⟨A8, c8, w8, hrun, hown8, ho8, hf8⟩ := run_appz (P := Try.prog) _ 39 3 39 45 i0 (.int .i16 0) .i64 .i64 2 Try.underlying39 Try.underlying3 hi0 hz0 hz1 hz2 rfl rfl A5 (32 * k) c5 _ hown W (by unfold maxLen; omega) (by omega)
            have hl8 : 32 * k + W = (rowTo p x4 n S j (k + 1)).length := by rw [HRN.out j, List.length_append, hrl, List.length_replicate, HW.out]
            have hys : sV (rowTo p x4 n S j k) ++ List.replicate W (.int .i16 0) = sV (rowTo p x4 n S j (k + 1)) := by rw [HRN.out j, sV_zeros, HW.out]
            obtain ⟨g1, g2, ⟨H6, g3, _⟩, g4, _⟩ := hgrow _ _ _ _ _ _ hl8 hys ho8 hf8 hown8
            rw [rmid_step] at g3
            have HR6 := Lib.hid g3
            have HB6 := Lib.hid g4
            clear hl8 hys hgrow hown hown8 ho8 hf8 g3 g4 hrl hH
            go_wp2_with (at_builtin; refine Lib.wpList_append_run _ rfl _ _ _ _ rfl _ _ rfl rfl _ _ hrun ?_)
            go_roundw
            case rel => exact ⟨j + 1, by omega, by go_num, H6, HR6, HB6⟩
            case measure => simp [intOf]; omega
          · have hje : j = x4 := by omega
            subst hje
            go_wp2_with fail
            go_roundw
            case rel => exact ⟨k + 1, by omega, by go_num, B9, cb9, by rw [HBN.out, List.length_append]; rfl, H5, Lib.hid HR5.out.endRound, Lib.hid (by rw [HBN.out, List.length_append]; exact HB5.out), Lib.hid (by rw [HBN.out, List.length_append]; exact HF9.out)⟩
            case measure => simp [intOf]; omega

      · have hshd : (J : Int) + (S : Int) ≤ (p.length : Int) := by omega
        obtain ⟨JS, hJS⟩ : ∃ JS, JS = J + S := ⟨_, rfl⟩
        have hJSi : (J : Int) + (S : Int) = (JS : Int) := by omega
        have hJSp : JS ≤ p.length := by omega
        have hJJ : J ≤ JS := by omega
        have hse : 10 + k * S = J := by rw [HJ.out, HQQ.out]
        have hsa := sub_at (p := p) (S := S) (k := k) (by rw [hse]; omega)
        rw [hse, ← hJS] at hsa
        have hrd := (HRD.out.then HR.out.only).sub (j := J) (m := JS) (c := c) hJJ hJSp hc
        rw [bytesV_sub, hsa] at hrd
        have HOKE := Lib.hid (show okB p x4 n S k = decide ((TB (sub p S k)).2 = 0 ∧ (TB (sub p S k)).1.length = x4 ∧ ((TB (sub p S k)).1.headD []).length = W) by unfold okB; rw [HW.out])
        have HPC := Lib.hid (show okB p x4 n S k = true → ∀ j, j < x4 → (TB (sub p S k)).1[j]? = some (piece p x4 n S k j) ∧ (piece p x4 n S k j).length = W from fun h j hj => by rw [HW.out]; exact okB_get h hj)
        have HQ8 := Lib.hid (show ∀ z ∈ sub p S k, z < 256 from sub_lt HPX.out S k)
        have HHL := Lib.hid (TB_rows (sub p S k))
        have hql : JS - J = S := by omega
        have hqs : (sub p S k).length = S := by
          have := hrd.1
          simp [bytesV] at this
          omega
        rw [hql] at hrd
        generalize sub p S k = q at hrd HOKE HPC HQ8 HHL hqs
        obtain ⟨A6, hA6⟩ : ∃ A6 : Option Addr, A6 = (if c = J then (some ⟨b, off, none⟩ : Option Addr) else (some ⟨b, off, none⟩ : Option Addr).map (·.add (J * 1))) := ⟨_, rfl⟩
        obtain ⟨C6, hC6⟩ : ∃ C6, C6 = c - J := ⟨_, rfl⟩
        rw [← hA6] at hrd
        have HTK := Lib.hid (show Calls Try.prog 18 #[.slice A6 S C6] wr (TakC q wr) from by
          rw [← hqs] at hrd ⊢
          exact refTakeBlock_any wr A6 C6 q hrd (by omega) HQ8.out (by omega))
        have HA6 := Lib.hid hA6
        have HC6 := Lib.hid hC6
        have HQL := Lib.hid hql
        clear hrd hsa hse hA6 hC6 hql hqs hsh hJS
        have tok : True := trivial
        have tok2 : True := trivial
        go_wp2_with (first | (clear tok; refine arm_min 32 ((n : Int) - (k : Int) * 32) (W : Int) HWI.out rfl rfl rfl rfl ?_) | (clear tok2; refine arm_cut Try.underlying22 sz_u8 J JS hJJ (by omega) rfl rfl rfl rfl rfl ?_; rw [← HA6.out, HQL.out, ← HC6.out]))
        refine HTK.out.mono ?_
        rintro e w7 ⟨A7, c7, hs7, rfl, hp7, hn7, o7⟩
        clear HTK HA6 HC6 HQL hshd hJSi hJSp hJJ e2 hJi
        generalize (TB q).2 = E7 at HOKE ⊢
        generalize (TB q).1 = ls7 at hp7 HOKE HPC HHL ⊢
        have HP7 := Lib.hid (hp7.then (Only.refl _ _).drew)
        have HN7 := Lib.hid hn7
        have HRo := HR
        have HR7 := Lib.hid ((HR.out.then o7).then (Only.refl _ _).drew)
        have HB7 := Lib.hid (own_only (own_only HB.out o7 (by simp)) (Only.refl [] _).drew (by simp))
        have hsz7 : wr.heap.size ≤ w7.heap.size := o7.size
        clear hp7 hn7 HR HB o7
        rename Hid (Rs w gp x4 H (fun c => rowTo p x4 n S c k) w7.drew) => HR
        rename Hid (World.ownsRow w7.drew _ _ _ _ _ _) => HB
        by_cases hE7 : E7 = 0
        rotate_left
        · have HOK := Lib.hid (show okB p x4 n S k = false by rw [HOKE.out]; exact decide_eq_false (fun h => hE7 h.1))
          have hE7' : (E7 == 0) = false := by rw [beq_eq_false_iff_ne]; exact hE7
          clear hE7 HOKE HPC HHL HP7 HN7 HRo
          go_wp2_with fail
          go_region
          have HBN := Lib.hid (badTo_no HOK.out)
          have HRN := Lib.hid (rowTo_no HOK.out)
          obtain ⟨bd, hbd⟩ : ∃ bd, bd = badTo p x4 n S k := ⟨_, rfl⟩
          rw [← hbd] at HB HF HBN hbl ⊢
          clear hbd HOK
          have tok : True := trivial
          go_wp2_with (first | fail | (at_builtin; refine wpList_app _ rfl _ _ 41 rfl 3 i2 (.int .i64 0) 1 8 Try.underlying41 hi2 hx0 hx1 hx2 rfl (by decide) B bd.length cb (iV bd) rfl (own_only HB.out ((Only.refl [] _).alloc _) (by simp)) _ 1 1 [.int .i64 (k : Int)] rfl (Reads.one _ _ _) (by simp [Value.oneCell']) (by unfold maxLen; omega) (by omega) ?_))
          intro B9 cb9 w9 ownB9 oB9 fB9
          obtain ⟨hr9, hf9⟩ := (HR.out.then ((Only.refl [] _).alloc _)).num (own_only HB.out ((Only.refl [] _).alloc _) (by simp)) HF.out oB9 fB9
          have HR9 := Lib.hid hr9
          have HF9 := Lib.hid hf9
          have HB9 := Lib.hid (show w9.ownsRow 0 3 1 (.slice B9 (bd.length + 1) cb9) (bd.length + 1) (iV (bd ++ [(k : Int)])) by
            have : iV (bd ++ [(k : Int)]) = iV bd ++ [.int .i64 (k : Int)] := by simp [iV]
            rw [this]; exact ownB9)
          clear ownB9 oB9 fB9 hr9 hf9 HR HB HF
          go_wp2_with fail
          go_loopw [18] (fun jv wr => ∃ j : Nat, j ≤ x4 ∧ jv = .int .i64 (j : Int) ∧ ∃ H, Hid (Rs w gp x4 H (rmid p x4 n S k j) wr) ∧ Hid (wr.ownsRow 0 3 1 (.slice B9 (bd.length + 1) cb9) (bd.length + 1) (iV (bd ++ [(k : Int)])))) (fun jv _ => x4 - (intOf jv).toNat)
          case atStart => exact ⟨0, Nat.zero_le _, rfl, _, Lib.hid (by rw [rmid_zero]; exact HR9.out), HB9⟩
          case round =>
            obtain ⟨j, hj, rfl, H5, HR5, HB5⟩ := hrel
            by_cases hjc : j < x4
            · have hji : (j : Int) < (x4 : Int) := by omega
              have hrl := HRL.out j k hjc h32
              have hcell := HR5.out.cell hjc
              have hown := HR5.out.own j hjc
              have hgrow := fun (n' c' : Nat) (A' : Option Addr) (ys : List Value) (l' : List Int) (w1 : World) => HR5.out.grow (w1 := w1) (n' := n') (c' := c') (A' := A') (ys := ys) (l' := l') hjc HB5.out
              rw [rmid_at, hrl] at hcell hown hgrow
              rcases hH : H5 j with ⟨A5, c5⟩
              rw [hH] at hcell hown hgrow
              simp only at hcell hown hgrow
              obtain ⟨A8, c8, w8, hrun, hown8, ho8, hf8⟩ := run_appz (P := Try.prog) _ 39 3 39 45 i0 (.int .i16 0) .i64 .i64 2 Try.underlying39 Try.underlying3 hi0 hz0 hz1 hz2 rfl rfl A5 (32 * k) c5 _ hown W (by unfold maxLen; omega) (by omega)
              have hl8 : 32 * k + W = (rowTo p x4 n S j (k + 1)).length := by rw [HRN.out j, List.length_append, hrl, List.length_replicate, HW.out]
              have hys : sV (rowTo p x4 n S j k) ++ List.replicate W (.int .i16 0) = sV (rowTo p x4 n S j (k + 1)) := by rw [HRN.out j, sV_zeros, HW.out]
              obtain ⟨g1, g2, ⟨H6, g3, _⟩, g4, _⟩ := hgrow _ _ _ _ _ _ hl8 hys ho8 hf8 hown8
              rw [rmid_step] at g3
              have HR6 := Lib.hid g3
              have HB6 := Lib.hid g4
              clear hl8 hys hgrow hown hown8 ho8 hf8 g3 g4 hrl hH
              go_wp2_with (at_builtin; refine Lib.wpList_append_run _ rfl _ _ _ _ rfl _ _ rfl rfl _ _ hrun ?_)
              go_roundw
              case rel => exact ⟨j + 1, by omega, by go_num, H6, HR6, HB6⟩
              case measure => simp [intOf]; omega
            · have hje : j = x4 := by omega
              subst hje
              go_wp2_with fail
              go_roundw
              case rel => exact ⟨k + 1, by omega, by go_num, B9, cb9, by rw [HBN.out, List.length_append]; rfl, H5, Lib.hid HR5.out.endRound, Lib.hid (by rw [HBN.out, List.length_append]; exact HB5.out), Lib.hid (by rw [HBN.out, List.length_append]; exact HF9.out)⟩
              case measure => simp [intOf]; omega

        subst hE7
        by_cases hl7 : ls7.length = x4
        rotate_left
        · have HOK := Lib.hid (show okB p x4 n S k = false by rw [HOKE.out]; exact decide_eq_false (fun h => hl7 h.2.1))
          have hl7' : ((ls7.length : Int) == (x4 : Int)) = false := by rw [beq_eq_false_iff_ne]; omega
          clear hl7 HOKE HPC HHL HP7 HN7 HRo
          go_wp2_with fail
          go_region
          have HBN := Lib.hid (badTo_no HOK.out)
          have HRN := Lib.hid (rowTo_no HOK.out)
          obtain ⟨bd, hbd⟩ : ∃ bd, bd = badTo p x4 n S k := ⟨_, rfl⟩
          rw [← hbd] at HB HF HBN hbl ⊢
          clear hbd HOK
          have tok : True := trivial
          go_wp2_with (first | fail | (at_builtin; refine wpList_app _ rfl _ _ 41 rfl 3 i2 (.int .i64 0) 1 8 Try.underlying41 hi2 hx0 hx1 hx2 rfl (by decide) B bd.length cb (iV bd) rfl (own_only HB.out ((Only.refl [] _).alloc _) (by simp)) _ 1 1 [.int .i64 (k : Int)] rfl (Reads.one _ _ _) (by simp [Value.oneCell']) (by unfold maxLen; omega) (by omega) ?_))
          intro B9 cb9 w9 ownB9 oB9 fB9
          obtain ⟨hr9, hf9⟩ := (HR.out.then ((Only.refl [] _).alloc _)).num (own_only HB.out ((Only.refl [] _).alloc _) (by simp)) HF.out oB9 fB9
          have HR9 := Lib.hid hr9
          have HF9 := Lib.hid hf9
          have HB9 := Lib.hid (show w9.ownsRow 0 3 1 (.slice B9 (bd.length + 1) cb9) (bd.length + 1) (iV (bd ++ [(k : Int)])) by
            have : iV (bd ++ [(k : Int)]) = iV bd ++ [.int .i64 (k : Int)] := by simp [iV]
            rw [this]; exact ownB9)
          clear ownB9 oB9 fB9 hr9 hf9 HR HB HF
          go_wp2_with fail
          go_loopw [18] (fun jv wr => ∃ j : Nat, j ≤ x4 ∧ jv = .int .i64 (j : Int) ∧ ∃ H, Hid (Rs w gp x4 H (rmid p x4 n S k j) wr) ∧ Hid (wr.ownsRow 0 3 1 (.slice B9 (bd.length + 1) cb9) (bd.length + 1) (iV (bd ++ [(k : Int)])))) (fun jv _ => x4 - (intOf jv).toNat)
          case atStart => exact ⟨0, Nat.zero_le _, rfl, _, Lib.hid (by rw [rmid_zero]; exact HR9.out), HB9⟩
          case round =>
            obtain ⟨j, hj, rfl, H5, HR5, HB5⟩ := hrel
            by_cases hjc : j < x4
            · have hji : (j : Int) < (x4 : Int) := by omega
              have hrl := HRL.out j k hjc h32
              have hcell := HR5.out.cell hjc
              have hown := HR5.out.own j hjc
              have hgrow := fun (n' c' : Nat) (A' : Option Addr) (ys : List Value) (l' : List Int) (w1 : World) => HR5.out.grow (w1 := w1) (n' := n') (c' := c') (A' := A') (ys := ys) (l' := l') hjc HB5.out
              rw [rmid_at, hrl] at hcell hown hgrow
              rcases hH : H5 j with ⟨A5, c5⟩
              rw [hH] at hcell hown hgrow
              simp only at hcell hown hgrow
              obtain ⟨A8, c8, w8, hrun, hown8, ho8, hf8⟩ := run_appz (P := Try.prog) _ 39 3 39 45 i0 (.int .i16 0) .i64 .i64 2 Try.underlying39 Try.underlying3 hi0 hz0 hz1 hz2 rfl rfl A5 (32 * k) c5 _ hown W (by unfold maxLen; omega) (by omega)
              have hl8 : 32 * k + W = (rowTo p x4 n S j (k + 1)).length := by rw [HRN.out j, List.length_append, hrl, List.length_replicate, HW.out]
              have hys : sV (rowTo p x4 n S j k) ++ List.replicate W (.int .i16 0) = sV (rowTo p x4 n S j (k + 1)) := by rw [HRN.out j, sV_zeros, HW.out]
              obtain ⟨g1, g2, ⟨H6, g3, _⟩, g4, _⟩ := hgrow _ _ _ _ _ _ hl8 hys ho8 hf8 hown8
              rw [rmid_step] at g3
              have HR6 := Lib.hid g3
              have HB6 := Lib.hid g4
              clear hl8 hys hgrow hown hown8 ho8 hf8 g3 g4 hrl hH
              go_wp2_with (at_builtin; refine Lib.wpList_append_run _ rfl _ _ _ _ rfl _ _ rfl rfl _ _ hrun ?_)
              go_roundw
              case rel => exact ⟨j + 1, by omega, by go_num, H6, HR6, HB6⟩
              case measure => simp [intOf]; omega
            · have hje : j = x4 := by omega
              subst hje
              go_wp2_with fail
              go_roundw
              case rel => exact ⟨k + 1, by omega, by go_num, B9, cb9, by rw [HBN.out, List.length_append]; rfl, H5, Lib.hid HR5.out.endRound, Lib.hid (by rw [HBN.out, List.length_append]; exact HB5.out), Lib.hid (by rw [HBN.out, List.length_append]; exact HF9.out)⟩
              case measure => simp [intOf]; omega

        rw [hl7]
        obtain ⟨l0, hl0⟩ : ∃ l0, ls7[0]? = some l0 := ⟨_, List.getElem?_eq_getElem (by omega)⟩
        obtain ⟨b7, off7, X0, cX0, rfl, c00, _, _⟩ := HP7.out.at_ hl0
        have hhd : ls7.headD [] = l0 := head_get hl0
        rw [Nat.add_zero] at c00
        rw [hhd] at HOKE
        have hx40 : (0 : Int) < (x4 : Int) := by omega
        by_cases hW7 : l0.length = W
        rotate_left
        · have HOK := Lib.hid (show okB p x4 n S k = false by rw [HOKE.out]; exact decide_eq_false (fun h => hW7 h.2.2))
          have hW7' : ((l0.length : Int) == (W : Int)) = false := by rw [beq_eq_false_iff_ne]; omega
          clear hl7 hW7 hl0 hhd HOKE HPC HHL HP7 HN7 HRo
          go_wp2_with fail
          go_region
          clear c00
          have HBN := Lib.hid (badTo_no HOK.out)
          have HRN := Lib.hid (rowTo_no HOK.out)
          obtain ⟨bd, hbd⟩ : ∃ bd, bd = badTo p x4 n S k := ⟨_, rfl⟩
          rw [← hbd] at HB HF HBN hbl ⊢
          clear hbd HOK
          have tok : True := trivial
          go_wp2_with (first | fail | (at_builtin; refine wpList_app _ rfl _ _ 41 rfl 3 i2 (.int .i64 0) 1 8 Try.underlying41 hi2 hx0 hx1 hx2 rfl (by decide) B bd.length cb (iV bd) rfl (own_only HB.out ((Only.refl [] _).alloc _) (by simp)) _ 1 1 [.int .i64 (k : Int)] rfl (Reads.one _ _ _) (by simp [Value.oneCell']) (by unfold maxLen; omega) (by omega) ?_))
          intro B9 cb9 w9 ownB9 oB9 fB9
          obtain ⟨hr9, hf9⟩ := (HR.out.then ((Only.refl [] _).alloc _)).num (own_only HB.out ((Only.refl [] _).alloc _) (by simp)) HF.out oB9 fB9
          have HR9 := Lib.hid hr9
          have HF9 := Lib.hid hf9
          have HB9 := Lib.hid (show w9.ownsRow 0 3 1 (.slice B9 (bd.length + 1) cb9) (bd.length + 1) (iV (bd ++ [(k : Int)])) by
            have : iV (bd ++ [(k : Int)]) = iV bd ++ [.int .i64 (k : Int)] := by simp [iV]
            rw [this]; exact ownB9)
          clear ownB9 oB9 fB9 hr9 hf9 HR HB HF
          go_wp2_with fail
          go_loopw [18] (fun jv wr => ∃ j : Nat, j ≤ x4 ∧ jv = .int .i64 (j : Int) ∧ ∃ H, Hid (Rs w gp x4 H (rmid p x4 n S k j) wr) ∧ Hid (wr.ownsRow 0 3 1 (.slice B9 (bd.length + 1) cb9) (bd.length + 1) (iV (bd ++ [(k : Int)])))) (fun jv _ => x4 - (intOf jv).toNat)
          case atStart => exact ⟨0, Nat.zero_le _, rfl, _, Lib.hid (by rw [rmid_zero]; exact HR9.out), HB9⟩
          case round =>
            obtain ⟨j, hj, rfl, H5, HR5, HB5⟩ := hrel
            by_cases hjc : j < x4
            · have hji : (j : Int) < (x4 : Int) := by omega
              have hrl := HRL.out j k hjc h32
              have hcell := HR5.out.cell hjc
              have hown := HR5.out.own j hjc
              have hgrow := fun (n' c' : Nat) (A' : Option Addr) (ys : List Value) (l' : List Int) (w1 : World) => HR5.out.grow (w1 := w1) (n' := n') (c' := c') (A' := A') (ys := ys) (l' := l') hjc HB5.out
              rw [rmid_at, hrl] at hcell hown hgrow
              rcases hH : H5 j with ⟨A5, c5⟩
              rw [hH] at hcell hown hgrow
              simp only at hcell hown hgrow
              obtain ⟨A8, c8, w8, hrun, hown8, ho8, hf8⟩ := run_appz (P := Try.prog) _ 39 3 39 45 i0 (.int .i16 0) .i64 .i64 2 Try.underlying39 Try.underlying3 hi0 hz0 hz1 hz2 rfl rfl A5 (32 * k) c5 _ hown W (by unfold maxLen; omega) (by omega)
              have hl8 : 32 * k + W = (rowTo p x4 n S j (k + 1)).length := by rw [HRN.out j, List.length_append, hrl, List.length_replicate, HW.out]
              have hys : sV (rowTo p x4 n S j k) ++ List.replicate W (.int .i16 0) = sV (rowTo p x4 n S j (k + 1)) := by rw [HRN.out j, sV_zeros, HW.out]
              obtain ⟨g1, g2, ⟨H6, g3, _⟩, g4, _⟩ := hgrow _ _ _ _ _ _ hl8 hys ho8 hf8 hown8
              rw [rmid_step] at g3
              have HR6 := Lib.hid g3
              have HB6 := Lib.hid g4
              clear hl8 hys hgrow hown hown8 ho8 hf8 g3 g4 hrl hH
              go_wp2_with (at_builtin; refine Lib.wpList_append_run _ rfl _ _ _ _ rfl _ _ rfl rfl _ _ hrun ?_)
              go_roundw
              case rel => exact ⟨j + 1, by omega, by go_num, H6, HR6, HB6⟩
              case measure => simp [intOf]; omega
            · have hje : j = x4 := by omega
              subst hje
              go_wp2_with fail
              go_roundw
              case rel => exact ⟨k + 1, by omega, by go_num, B9, cb9, by rw [HBN.out, List.length_append]; rfl, H5, Lib.hid HR5.out.endRound, Lib.hid (by rw [HBN.out, List.length_append]; exact HB5.out), Lib.hid (by rw [HBN.out, List.length_append]; exact HF9.out)⟩
              case measure => simp [intOf]; omega

        have hok : okB p x4 n S k = true := by rw [HOKE.out]; exact decide_eq_true ⟨rfl, hl7, hW7⟩
        have HBN := Lib.hid (badTo_ok hok)
        have HPE := Lib.hid (HPC.out hok)
        have hW7' : ((l0.length : Int) == (W : Int)) = true := by rw [beq_iff_eq]; omega
        clear hl0 hhd HOKE HPC hok hl7 hW7
        go_wp2_with fail
        go_region
        clear c00 hW7'
        have HG := Lib.hid (show ∀ x ∈ Gs gp x4 H, x < wr.heap.size from Gs_lt HRo.out)
        have HGM := Lib.hid (Gs_mem gp x4 H)
        generalize Gs gp x4 H = G at HG HGM
        have hsz7' : wr.heap.size ≤ w7.drew.heap.size := hsz7
        clear HRo hsz7
        generalize w7.drew = wD at HP7 HR HB hsz7' ⊢
        go_wp2_with fail
        go_loopw [18] (fun jv wr => ∃ j : Nat, j ≤ x4 ∧ jv = .int .i64 (j : Int) ∧ ∃ H, Hid (Rs w gp x4 H (rmid p x4 n S k j) wr) ∧ Hid (wr.ownsRow 0 3 1 (.slice B (badTo p x4 n S k).length cb) (badTo p x4 n S k).length (iV (badTo p x4 n S k))) ∧ Hid (Only G wD wr) ∧ Hid (∀ i, i < x4 → ∀ x ∈ rowFp (.slice (H i).1 0 0), x ∈ G ∨ wD.heap.size ≤ x)) (fun jv _ => x4 - (intOf jv).toNat)
        case atStart => exact ⟨0, Nat.zero_le _, rfl, H, Lib.hid (by rw [rmid_zero]; exact HR.out), HB, Lib.hid (Only.refl _ _), Lib.hid (fun i hi x hx => .inl (HGM.out.2 i hi x hx))⟩
        case round =>
          obtain ⟨j, hj, rfl, H5, HR5, HB5, HO5, HG5⟩ := hrel
          by_cases hjc : j < x4
          · have hji : (j : Int) < (x4 : Int) := by omega
            have hrl := HRL.out j k hjc h32
            have hcell := (HR5.out.then (Only.refl _ _).drew).cell hjc
            have hown := own_only (HR5.out.own j hjc) (Only.refl [] _).drew (by simp)
            have hgrow := fun (n' c' : Nat) (A' : Option Addr) (ys : List Value) (l' : List Int) (w1 : World) => (HR5.out.then (Only.refl _ _).drew).grow (w1 := w1) (n' := n') (c' := c') (A' := A') (ys := ys) (l' := l') hjc (own_only HB5.out (Only.refl [] _).drew (by simp))
            rw [rmid_at, hrl] at hcell hown hgrow
            have hg5 := HG5.out j hjc
            rcases hH : H5 j with ⟨A5, c5⟩
            rw [hH] at hcell hown hgrow hg5
            simp only at hcell hown hgrow hg5
            obtain ⟨hpe, hpl⟩ := HPE.out j hjc
            have hp2 := HP7.out.off HO5.out (fun ad h hm => by have h1 := HG.out _ hm; have h2 := HN7.out.1 ad h; omega) (fun x hx ad h hm => by have h1 := HG.out _ hm; have h2 := HN7.out.2 x hx ad h; omega)
            obtain ⟨b8, off8, X, cX, h78, cl, rl, _⟩ := hp2.at_ hpe
            injection h78 with h78
            injection h78 with h78a h78b
            subst h78a h78b
            rw [hpl] at cl rl
            have hb7 : b7 ∉ gp :: rowFp (.slice A5 0 0) := fun hm => by
              have h2 := HN7.out.1 _ rfl
              simp only at h2
              obtain ⟨_, _, _, _, h9, h10, _, _⟩ := HP7.out.at_ hpe
              have h11 := World.block_lt_of_cell? _ _ h10
              injection h9 with h9
              injection h9 with h9 _
              subst h9
              rcases List.mem_cons.1 hm with rfl | hm
              · have := HG.out _ HGM.out.1; omega
              · rcases hg5 _ hm with hh | hh
                · have := HG.out _ hh; omega
                · simp only at h11; omega
            have fl0 : ∀ w', Only (gp :: rowFp (.slice A5 0 0)) wr w' → w'.cell? ⟨b7, off7 + j, none⟩ = some (.slice X W cX) := fun w' h => (h.cell (World.block_lt_of_cell? _ _ cl) hb7).trans cl
            have hl8 : 32 * k + W = (rowTo p x4 n S j (k + 1)).length := by simp only [rowTo]; rw [List.length_append, hrl, hpl]
            have hys : sV (rowTo p x4 n S j k) ++ sV (piece p x4 n S k j) = sV (rowTo p x4 n S j (k + 1)) := sV_app _ _
            have RL8 := Lib.hid (show Reads wr.drew X 1 W (sV (piece p x4 n S k j)) from rl.drew)
            clear hp2 hpe hpl hb7 cl rl hH hrl
            generalize piece p x4 n S k j = l8 at RL8 hys
            have HL8 := Lib.hid hl8
            have HYS := Lib.hid hys
            clear hl8 hys
            go_wp2_with fail
            refine rgnM (Only (gp :: rowFp (.slice A5 0 0)) wr) [(0, true), (1, true), (2, true), (3, true), (4, true), (6, true), (7, true), (8, true), (9, true), (5, false), (10, false), (11, true), (12, false)] (by kernel_rfl) (by kernel_rfl) (Only.refl _ _).drew ?_
            simp only [pickL, nth]
            refine mW (.slice (some ⟨gp, 0, none⟩) x4 x4) rfl rfl (fun w hC K hK => ?_) rfl ?_
            · (go_wp2_with fail) <;> exact hK
            simp only [Act.put, List.setIfInBounds_toArray, List.set_cons_zero, List.set_cons_succ]
            refine mW (.int .i64 (j : Int)) rfl rfl (fun w hC K hK => ?_) rfl ?_
            · (go_wp2_with fail) <;> exact hK
            simp only [Act.put, List.setIfInBounds_toArray, List.set_cons_zero, List.set_cons_succ]
            refine mW (.slice (some ⟨gp, 0, none⟩) x4 x4) rfl rfl (fun w hC K hK => ?_) rfl ?_
            · (go_wp2_with fail) <;> exact hK
            simp only [Act.put, List.setIfInBounds_toArray, List.set_cons_zero, List.set_cons_succ]
            refine mW (.int .i64 (j : Int)) rfl rfl (fun w hC K hK => ?_) rfl ?_
            · (go_wp2_with fail) <;> exact hK
            simp only [Act.put, List.setIfInBounds_toArray, List.set_cons_zero, List.set_cons_succ]
            refine mW (.pointer (some ⟨gp, j, none⟩)) rfl rfl (fun w hC K hK => ?_) rfl ?_
            · (go_wp2_with fail) <;> exact hK
            simp only [Act.put, List.setIfInBounds_toArray, List.set_cons_zero, List.set_cons_succ]
            refine mW (.slice (some ⟨b7, off7, none⟩) x4 c7) rfl rfl (fun w hC K hK => ?_) rfl ?_
            · (go_wp2_with fail) <;> exact hK
            simp only [Act.put, List.setIfInBounds_toArray, List.set_cons_zero, List.set_cons_succ]
            refine mW (.int .i64 (j : Int)) rfl rfl (fun w hC K hK => ?_) rfl ?_
            · (go_wp2_with fail) <;> exact hK
            simp only [Act.put, List.setIfInBounds_toArray, List.set_cons_zero, List.set_cons_succ]
            refine mW (.pointer (some ⟨b7, off7 + j, none⟩)) rfl rfl (fun w hC K hK => ?_) rfl ?_
            · (go_wp2_with fail) <;> exact hK
            simp only [Act.put, List.setIfInBounds_toArray, List.set_cons_zero, List.set_cons_succ]
            refine mW (.slice X W cX) rfl rfl (fun w hC K hK => ?_) rfl ?_
            · have fc := fl0 w hC; (go_wp2_with fail) <;> exact hK
            simp only [Act.put, List.setIfInBounds_toArray, List.set_cons_zero, List.set_cons_succ]
            clear fl0
            refine mX ?_
            go_wp2_with fail
            refine mS (Only.refl _ _).drew ?_
            clear hcell
            refine mX ?_
            go_wp2_with (at_builtin; refine wpList_app _ rfl _ _ 39 rfl 45 i0 (.int .i16 0) 1 2 Try.underlying39 hi0 hz0 hz1 hz2 rfl (by decide) A5 (32 * k) c5 _ rfl hown X W cX (sV l8) rfl RL8.out (sV_one _) (by unfold maxLen; omega) (by omega) ?_)
            intro A9 c9 w9 own9 o9 f9
            have hs9 : Only (gp :: rowFp (.slice A5 0 0)) wr w9 := (Only.refl _ _).drew.trans (o9.mono (fun x hx => by rw [rowFp_any A5 0 0 (32 * k) c5]; simp [hx])) (Fresh.refl _ _)
            obtain ⟨g1, g2, ⟨H6, g3, g6⟩, g4, g5⟩ := hgrow _ _ _ _ _ _ HL8.out HYS.out o9 f9 own9
            rw [rmid_step] at g3
            have HR6 := Lib.hid g3
            have HB6 := Lib.hid g4
            have hs10 : Only (gp :: rowFp (.slice A5 0 0)) wr (w9.setCell ⟨gp, j, none⟩ (.slice A9 (32 * k + W) c9)) := (Only.refl _ _).drew.trans g5 (Fresh.refl _ _)
            have HO6 := Lib.hid (show Only G wD (w9.setCell ⟨gp, j, none⟩ (.slice A9 (32 * k + W) c9)) from HO5.out.trans hs10 (fun x hx => by
              rcases List.mem_cons.1 hx with rfl | hx
              · exact .inl HGM.out.1
              · exact hg5 x hx))
            have HG6 := Lib.hid (show ∀ i, i < x4 → ∀ x ∈ rowFp (.slice (H6 i).1 0 0), x ∈ G ∨ wD.heap.size ≤ x from fun i hi x hx => by
              rcases g6 i hi x hx with h | h
              · exact HG5.out i hi x h
              · have h1 : wr.heap.size ≤ x := h
                have := HO5.out.size
                exact .inr (by omega))
            have HS10 := Lib.hid hs10
            clear HL8 HYS hgrow hown o9 f9 own9 g3 g4 g5 g6 hg5 hs10
            refine mS hs9 ?_
            clear hs9
            refine mW (.pointer (some ⟨gp, j, none⟩)) rfl rfl (fun w hC K hK => ?_) rfl ?_
            · (go_wp2_with fail) <;> exact hK
            simp only [Act.put, List.setIfInBounds_toArray, List.set_cons_zero, List.set_cons_succ]
            refine mX ?_
            go_wp2_with fail
            refine mS HS10.out ?_
            refine mN ?_

            go_wp2_with fail
            go_roundw
            case rel => exact ⟨j + 1, by omega, by go_num, H6, HR6, HB6, HO6, HG6⟩
            case measure => simp [intOf]; omega
          · have hje : j = x4 := by omega
            subst hje
            go_wp2_with fail
            go_roundw
            case rel => exact ⟨k + 1, by omega, by go_num, B, cb, by rw [HBN.out], H5, Lib.hid HR5.out.endRound, Lib.hid (by rw [HBN.out]; exact HB5.out), Lib.hid (by rw [HBN.out]; exact HF.out)⟩
            case measure => simp [intOf]; omega
    · have hke : k = NB := by omega
      subst hke
      go_wp2_with fail
      go_ret3
      refine ⟨some ⟨gp, 0, none⟩, x4, (List.range x4).map H, B, cb, ?_, ?_, ?_, HR.out.only⟩
      · rw [HE.out, List.length_map, List.length_range]
        rfl
      · rw [HE.out]; exact HR.out.pcm
      · rw [HE.out]; exact Reads.of_own HB.out
end Go.Proofs.Ytmojlfgfaabegaa
