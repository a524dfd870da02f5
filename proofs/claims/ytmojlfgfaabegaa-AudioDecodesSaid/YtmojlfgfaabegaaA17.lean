/- takeHeader; the plain decoded sound. -/
import Derived.Test.YtmojlfgfaabegaaA16
import Derived.OwnWalk
namespace Go.Proofs.Ytmojlfgfaabegaa
open Go.RowKit bt

/-- The number of samples that a header tells. -/
def hN (p : List Nat) : Nat := p.getD 5 0 * 65536 + p.getD 6 0 * 256 + p.getD 7 0
/-- What takeHeader comes to. -/
def HD (p : List Nat) : (Nat × Nat) × Int :=
  if p.length < 10 then ((0, 0), 4)
  else if p.take 4 = [67, 82, 83, 68] ∧ (1 ≤ p.getD 4 0 ∧ p.getD 4 0 ≤ 4) ∧ hN p ≤ 1048576 then
    if crc (p.take 8) = p.getD 8 0 * 256 + p.getD 9 0 then ((p.getD 4 0, hN p), 0) else ((0, 0), 10)
  else ((0, 0), 3)
def HdC (p : List Nat) (w : World) (e : Ending) (w' : World) : Prop :=
  e = .returned (.tuple #[.int .i64 ((HD p).1.1 : Int), .int .i64 ((HD p).1.2 : Int), .int .i64 (HD p).2]) ∧ Only [] w w'
theorem i64_or_nat (a b : Nat) (ha : a < 4294967296) (hb : b < 4294967296) : bits .or .i64 (a : Int) (b : Int) = ((a ||| b : Nat) : Int) := by
  have hx : a ||| b < 2 ^ 32 := Nat.or_lt_two_pow (by omega) (by omega)
  have ho : ∀ n : Nat, n < 4294967296 → (BitVec.ofInt 64 (n : Int)).toNat = n := fun n hn => by
    rw [BitVec.ofInt_natCast, BitVec.toNat_ofNat]; exact Nat.mod_eq_of_lt (by omega)
  show IntKind.i64.wrap ((BitVec.ofInt 64 (a : Int) ||| BitVec.ofInt 64 (b : Int)).toNat : Int) = _
  rw [BitVec.toNat_or, ho a ha, ho b hb]
  exact IntWalk.i64_in _ (by omega)
theorem or_add (a b i : Nat) (h : b < 2 ^ i) : (a * 2 ^ i) ||| b = a * 2 ^ i + b := by
  rw [Nat.mul_comm, ← Nat.two_pow_add_eq_or_of_lt h]
theorem get_of_lt {p : List Nat} {i : Nat} (h : i < p.length) : p[i]? = some (p.getD i 0) := by
  rw [List.getD_eq_getElem?_getD, List.getElem?_eq_getElem h]; rfl
theorem take_two {p : List Nat} (h : 10 ≤ p.length) : p.take 10 = p.take 8 ++ [p.getD 8 0, p.getD 9 0] := by
  rw [show p.take 10 = p.take (8 + 1 + 1) from rfl, List.take_add_one, List.take_add_one, get_of_lt (by omega), get_of_lt (by omega), List.append_assoc]
  rfl
theorem strC4 : strOf [67, 82, 83, 68] = { data := #[67, 82, 83, 68] } := rfl
set_option maxRecDepth 100000 in
set_option maxHeartbeats 4000000 in
theorem takeHeader_any (w : World) (A : Option Addr) (c : Nat) (p : List Nat) (hr : Reads w A 1 p.length (bytesV p)) (hc : p.length ≤ c) (hp : ∀ x ∈ p, x < 256) (hl : p.length ≤ 1000000000) :
    Calls Try.prog 57 #[.slice A p.length c] w (HdC p w) := by
  have HRD := Lib.hid hr
  have HPX := Lib.hid hp
  clear hr hp
  go_enter Try.func57, Try.ntmps57
  by_cases h10 : p.length < 10
  · have HE := Lib.hid (show HD p = ((0, 0), 4) by unfold HD; rw [if_pos h10])
    have h10' : (p.length : Int) < 10 := by omega
    clear h10
    go_wp2_with fail
    go_ret3
    unfold HdC
    rw [HE.out]
    exact ⟨rfl, Only.refl _ _⟩
  have h10p : 10 ≤ p.length := by omega
  have h10d : decide ((p.length : Int) < 10) = false := decide_eq_false (by omega)
  obtain ⟨b, off, rfl, hcell⟩ := HRD.out.plain (by omega) (by omega)
  have hget : ∀ i, i < 10 → w.cell? ⟨b, off + i, none⟩ = some (.int .u8 (p.getD i 0 : Int)) ∧ p.getD i 0 < 256 := fun i hi => by
    have h1 := get_of_lt (p := p) (i := i) (by omega)
    exact ⟨hcell i _ (by simp only [bytesV, List.getElem?_map, h1]; rfl), HPX.out _ (List.mem_of_getElem? h1)⟩
  obtain ⟨c4, hx4⟩ := hget 4 (by omega)
  obtain ⟨c5, hx5⟩ := hget 5 (by omega)
  obtain ⟨c6, hx6⟩ := hget 6 (by omega)
  obtain ⟨c7, hx7⟩ := hget 7 (by omega)
  have hx8 := (hget 8 (by omega)).2
  have hx9 := (hget 9 (by omega)).2
  have hNe : hN p = p.getD 5 0 * 65536 + p.getD 6 0 * 256 + p.getD 7 0 := rfl
  obtain ⟨x4, h4⟩ : ∃ x4, x4 = p.getD 4 0 := ⟨_, rfl⟩
  obtain ⟨x5, h5⟩ : ∃ x5, x5 = p.getD 5 0 := ⟨_, rfl⟩
  obtain ⟨x6, h6⟩ : ∃ x6, x6 = p.getD 6 0 := ⟨_, rfl⟩
  obtain ⟨x7, h7⟩ : ∃ x7, x7 = p.getD 7 0 := ⟨_, rfl⟩
  obtain ⟨n, hn⟩ : ∃ n, n = hN p := ⟨_, rfl⟩
  rw [← h4] at c4 hx4
  rw [← h5] at c5 hx5 hNe
  rw [← h6] at c6 hx6 hNe
  rw [← h7] at c7 hx7 hNe
  rw [← hn] at hNe
  obtain ⟨z1, hz1⟩ : ∃ z1, z1 = x5 * 65536 + x6 * 256 := ⟨_, rfl⟩
  have o1 : bits .or .i64 ((x5 : Int) * 65536) ((x6 : Int) * 256) = (z1 : Int) := by
    rw [show (x5 : Int) * 65536 = ((x5 * 65536 : Nat) : Int) by omega, show (x6 : Int) * 256 = ((x6 * 256 : Nat) : Int) by omega, i64_or_nat _ _ (by omega) (by omega), hz1, show (65536 : Nat) = 2 ^ 16 from rfl, or_add _ _ _ (by omega)]
  have o2 : bits .or .i64 (z1 : Int) (x7 : Int) = (n : Int) := by
    rw [i64_or_nat _ _ (by omega) (by omega), hNe, hz1, show x5 * 65536 + x6 * 256 = (x5 * 256 + x6) * 2 ^ 8 by omega, or_add _ _ _ (by omega)]
  have hnb : n < 16777216 := by omega
  have hz1b : z1 < 16777216 := by omega
  have H4 := Lib.hid h4
  have HN := Lib.hid hn
  have f50 : ∀ w', Cls w w' → w'.cell? ⟨b, off + 5, none⟩ = some (.int .u8 (x5 : Int)) := fun w' h => h.cell c5
  have f60 : ∀ w', Cls w w' → w'.cell? ⟨b, off + 6, none⟩ = some (.int .u8 (x6 : Int)) := fun w' h => h.cell c6
  have f70 : ∀ w', Cls w w' → w'.cell? ⟨b, off + 7, none⟩ = some (.int .u8 (x7 : Int)) := fun w' h => h.cell c7
  have i4 : (4 : Int) < (p.length : Int) := by omega
  have i5 : (5 : Int) < (p.length : Int) := by omega
  have i6 : (6 : Int) < (p.length : Int) := by omega
  have i7 : (7 : Int) < (p.length : Int) := by omega
  clear hget hcell c5 c6 c7 h4 h5 h6 h7 hn hNe h10 hz1
  go_wp2_with fail
  clear h10d c4 i4
  refine rgn (Cls w) (by kernel_rfl) (by kernel_rfl) Cls.refl ?_
  refine qW (.slice (some ⟨b, off, none⟩) p.length c) rfl rfl (fun w hC K hK => ?_) ?_
  · have f5 := f50 w hC; have f6 := f60 w hC; have f7 := f70 w hC; (go_wp2_with fail) <;> (first | exact hC | exact hK _ hC)
  simp only [Act.put, List.setIfInBounds_toArray, List.set_cons_zero, List.set_cons_succ]
  refine qW (.pointer (some ⟨b, off + 5, none⟩)) rfl rfl (fun w hC K hK => ?_) ?_
  · have f5 := f50 w hC; have f6 := f60 w hC; have f7 := f70 w hC; (go_wp2_with fail) <;> (first | exact hC | exact hK _ hC)
  simp only [Act.put, List.setIfInBounds_toArray, List.set_cons_zero, List.set_cons_succ]
  refine qW (.int .u8 (x5 : Int)) rfl rfl (fun w hC K hK => ?_) ?_
  · have f5 := f50 w hC; have f6 := f60 w hC; have f7 := f70 w hC; (go_wp2_with fail) <;> (first | exact hC | exact hK _ hC)
  simp only [Act.put, List.setIfInBounds_toArray, List.set_cons_zero, List.set_cons_succ]
  refine qW (.int .i64 (x5 : Int)) rfl rfl (fun w hC K hK => ?_) ?_
  · have f5 := f50 w hC; have f6 := f60 w hC; have f7 := f70 w hC; (go_wp2_with fail) <;> (first | exact hC | exact hK _ hC)
  simp only [Act.put, List.setIfInBounds_toArray, List.set_cons_zero, List.set_cons_succ]
  refine qW (.int .i64 ((x5 : Int) * 65536)) rfl rfl (fun w hC K hK => ?_) ?_
  · have f5 := f50 w hC; have f6 := f60 w hC; have f7 := f70 w hC; (go_wp2_with fail) <;> (first | exact hC | exact hK _ hC)
  simp only [Act.put, List.setIfInBounds_toArray, List.set_cons_zero, List.set_cons_succ]
  refine qW (.slice (some ⟨b, off, none⟩) p.length c) rfl rfl (fun w hC K hK => ?_) ?_
  · have f5 := f50 w hC; have f6 := f60 w hC; have f7 := f70 w hC; (go_wp2_with fail) <;> (first | exact hC | exact hK _ hC)
  simp only [Act.put, List.setIfInBounds_toArray, List.set_cons_zero, List.set_cons_succ]
  refine qW (.pointer (some ⟨b, off + 6, none⟩)) rfl rfl (fun w hC K hK => ?_) ?_
  · have f5 := f50 w hC; have f6 := f60 w hC; have f7 := f70 w hC; (go_wp2_with fail) <;> (first | exact hC | exact hK _ hC)
  simp only [Act.put, List.setIfInBounds_toArray, List.set_cons_zero, List.set_cons_succ]
  refine qW (.int .u8 (x6 : Int)) rfl rfl (fun w hC K hK => ?_) ?_
  · have f5 := f50 w hC; have f6 := f60 w hC; have f7 := f70 w hC; (go_wp2_with fail) <;> (first | exact hC | exact hK _ hC)
  simp only [Act.put, List.setIfInBounds_toArray, List.set_cons_zero, List.set_cons_succ]
  refine qW (.int .i64 (x6 : Int)) rfl rfl (fun w hC K hK => ?_) ?_
  · have f5 := f50 w hC; have f6 := f60 w hC; have f7 := f70 w hC; (go_wp2_with fail) <;> (first | exact hC | exact hK _ hC)
  simp only [Act.put, List.setIfInBounds_toArray, List.set_cons_zero, List.set_cons_succ]
  refine qW (.int .i64 ((x6 : Int) * 256)) rfl rfl (fun w hC K hK => ?_) ?_
  · have f5 := f50 w hC; have f6 := f60 w hC; have f7 := f70 w hC; (go_wp2_with fail) <;> (first | exact hC | exact hK _ hC)
  simp only [Act.put, List.setIfInBounds_toArray, List.set_cons_zero, List.set_cons_succ]
  refine qW (.int .i64 (z1 : Int)) rfl rfl (fun w hC K hK => ?_) ?_
  · have f5 := f50 w hC; have f6 := f60 w hC; have f7 := f70 w hC; (go_wp2_with fail) <;> (first | exact hC | exact hK _ hC)
  simp only [Act.put, List.setIfInBounds_toArray, List.set_cons_zero, List.set_cons_succ]
  refine qW (.slice (some ⟨b, off, none⟩) p.length c) rfl rfl (fun w hC K hK => ?_) ?_
  · have f5 := f50 w hC; have f6 := f60 w hC; have f7 := f70 w hC; (go_wp2_with fail) <;> (first | exact hC | exact hK _ hC)
  simp only [Act.put, List.setIfInBounds_toArray, List.set_cons_zero, List.set_cons_succ]
  refine qW (.pointer (some ⟨b, off + 7, none⟩)) rfl rfl (fun w hC K hK => ?_) ?_
  · have f5 := f50 w hC; have f6 := f60 w hC; have f7 := f70 w hC; (go_wp2_with fail) <;> (first | exact hC | exact hK _ hC)
  simp only [Act.put, List.setIfInBounds_toArray, List.set_cons_zero, List.set_cons_succ]
  refine qW (.int .u8 (x7 : Int)) rfl rfl (fun w hC K hK => ?_) ?_
  · have f5 := f50 w hC; have f6 := f60 w hC; have f7 := f70 w hC; (go_wp2_with fail) <;> (first | exact hC | exact hK _ hC)
  simp only [Act.put, List.setIfInBounds_toArray, List.set_cons_zero, List.set_cons_succ]
  refine qW (.int .i64 (x7 : Int)) rfl rfl (fun w hC K hK => ?_) ?_
  · have f5 := f50 w hC; have f6 := f60 w hC; have f7 := f70 w hC; (go_wp2_with fail) <;> (first | exact hC | exact hK _ hC)
  simp only [Act.put, List.setIfInBounds_toArray, List.set_cons_zero, List.set_cons_succ]
  refine qW (.int .i64 (n : Int)) rfl rfl (fun w hC K hK => ?_) ?_
  · have f5 := f50 w hC; have f6 := f60 w hC; have f7 := f70 w hC; (go_wp2_with fail) <;> (first | exact hC | exact hK _ hC)
  simp only [Act.put, List.setIfInBounds_toArray, List.set_cons_zero, List.set_cons_succ]
  refine qW (.int .i64 (n : Int)) rfl rfl (fun w hC K hK => ?_) ?_
  · have f5 := f50 w hC; have f6 := f60 w hC; have f7 := f70 w hC; (go_wp2_with fail) <;> (first | exact hC | exact hK _ hC)
  simp only [Act.put, List.setIfInBounds_toArray, List.set_cons_zero, List.set_cons_succ]
  refine qN ?_
  intro w2 hw2
  have HO2 := Lib.hid (show Only [] w w2 from hw2)
  clear f50 f60 f70 o1 o2 hw2 i5 i6 i7
  have R4 : Reads w2 (some ⟨b, off, none⟩) 1 4 (bytesV (p.take 4)) := by
    have := (HRD.out.then HO2.out).front (k := 4) (by omega)
    simpa [bytesV] using this
  have hcv := run_conv (c := c) R4
  have h4l : (p.take 4).length = 4 := by simp; omega
  have hp4 : ∀ x ∈ p.take 4, x < 256 := fun x hx => HPX.out x (List.mem_of_mem_take hx)
  have hstr : ((strOf (p.take 4)).toList == [67, 82, 83, 68]) = decide (p.take 4 = [67, 82, 83, 68]) := by
    rw [strOf_toList, Bool.eq_iff_iff]
    simp only [beq_iff_eq, decide_eq_true_eq]
    constructor
    · intro h
      exact ofNat_inj (p.take 4) [67, 82, 83, 68] hp4 (by decide) (by rw [h]; rfl)
    · intro h; rw [h]; rfl
  have HE3 : ∀ (_ : ¬ (p.take 4 = [67, 82, 83, 68] ∧ (1 ≤ p.getD 4 0 ∧ p.getD 4 0 ≤ 4) ∧ hN p ≤ 1048576)), HD p = ((0, 0), 3) := fun h => by unfold HD; rw [if_neg (by omega), if_neg h]
  have HHE3 := Lib.hid HE3
  clear R4 hp4 h4l HE3
  by_cases hsig : p.take 4 = [67, 82, 83, 68]
  rotate_left
  · have HE := Lib.hid (HHE3.out (fun h => hsig h.1))
    rw [decide_eq_false hsig] at hstr
    clear hsig
    generalize strOf (p.take 4) = sg at hstr hcv
    have tok : True := trivial
    go_wp2_with (first | (clear tok; refine arm_front Try.underlying22 sz_u8 4 (by omega) rfl rfl rfl rfl ?_))
    go_ret3
    unfold HdC
    rw [HE.out]
    exact ⟨rfl, HO2.out⟩
  rw [decide_eq_true hsig] at hstr
  have HSG := Lib.hid hsig
  clear hsig
  generalize strOf (p.take 4) = sg at hstr hcv
  by_cases hx1 : x4 < 1
  · have HE := Lib.hid (HHE3.out (fun h => by have := h.2.1.1; rw [← H4.out] at this; omega))
    have hx1' : (x4 : Int) < 1 := by omega
    clear hx1
    have tok : True := trivial
    go_wp2_with (first | (clear tok; refine arm_front Try.underlying22 sz_u8 4 (by omega) rfl rfl rfl rfl ?_))
    go_ret3
    unfold HdC
    rw [HE.out]
    exact ⟨rfl, HO2.out⟩
  have hxd1 : decide ((x4 : Int) < 1) = false := decide_eq_false (by omega)
  by_cases hx2 : 4 < x4
  · have HE := Lib.hid (HHE3.out (fun h => by have := h.2.1.2; rw [← H4.out] at this; omega))
    have hx2' : (4 : Int) < (x4 : Int) := by omega
    clear hx1 hx2
    have tok : True := trivial
    go_wp2_with (first | (clear tok; refine arm_front Try.underlying22 sz_u8 4 (by omega) rfl rfl rfl rfl ?_))
    go_ret3
    unfold HdC
    rw [HE.out]
    exact ⟨rfl, HO2.out⟩
  have hxd2 : decide ((4 : Int) < (x4 : Int)) = false := decide_eq_false (by omega)
  by_cases hn3 : 1048576 < n
  · have HE := Lib.hid (HHE3.out (fun h => by have := h.2.2; rw [← HN.out] at this; omega))
    have hn3' : (1048576 : Int) < (n : Int) := by omega
    clear hx1 hx2 hn3
    have tok : True := trivial
    go_wp2_with (first | (clear tok; refine arm_front Try.underlying22 sz_u8 4 (by omega) rfl rfl rfl rfl ?_))
    go_ret3
    unfold HdC
    rw [HE.out]
    exact ⟨rfl, HO2.out⟩
  have hnd3 : decide ((1048576 : Int) < (n : Int)) = false := decide_eq_false (by omega)
  have HC0 := Lib.hid (show p.take 4 = [67, 82, 83, 68] ∧ (1 ≤ p.getD 4 0 ∧ p.getD 4 0 ≤ 4) ∧ hN p ≤ 1048576 by rw [← H4.out, ← HN.out]; exact ⟨HSG.out, by omega, by omega⟩)
  clear hx1 hx2 hn3 HHE3
  have h8l : (p.take 8).length = 8 := by simp; omega
  have HCS := Lib.hid (show Calls Try.prog 33 #[.slice (some ⟨b, off, none⟩) 10 c] w2 fun e w' => e = .returned (.bool (decide (crc (p.take 8) = p.getD 8 0 * 256 + p.getD 9 0))) ∧ Only [] w2 w' by
    have h1 : Reads w2 (some ⟨b, off, none⟩) 1 ((p.take 8).length + 2) (bytesV (p.take 8 ++ [p.getD 8 0, p.getD 9 0])) := by
      have := (HRD.out.then HO2.out).front (k := 10) (by omega)
      rw [h8l, ← take_two h10p]
      simpa [bytesV] using this
    have := hasSum_any w2 (some ⟨b, off, none⟩) c (p.take 8) (p.getD 8 0) (p.getD 9 0) h1 (by omega) (fun z hz => HPX.out z (List.mem_of_mem_take hz)) hx8 hx9 (by omega)
    rwa [h8l] at this)
  have HE0 := Lib.hid (show crc (p.take 8) = p.getD 8 0 * 256 + p.getD 9 0 → HD p = ((x4, n), 0) from fun h => by unfold HD; rw [if_neg (by omega), if_pos HC0.out, if_pos h, H4.out, HN.out])
  have HE1 := Lib.hid (show ¬ crc (p.take 8) = p.getD 8 0 * 256 + p.getD 9 0 → HD p = ((0, 0), 10) from fun h => by unfold HD; rw [if_neg (by omega), if_pos HC0.out, if_neg h])
  clear h8l
  have tok : True := trivial
  have tok2 : True := trivial
  go_wp2_with (first | (clear tok; refine arm_front Try.underlying22 sz_u8 4 (by omega) rfl rfl rfl rfl ?_) | (clear tok2; refine arm_front Try.underlying22 sz_u8 10 (by omega) rfl rfl rfl rfl ?_))
  refine HCS.out.mono ?_
  rintro e w3 ⟨rfl, o3⟩
  have HO3 := Lib.hid (HO2.out.then o3)
  clear HCS o3 hcv hstr
  by_cases hsum : crc (p.take 8) = p.getD 8 0 * 256 + p.getD 9 0
  · have HE := Lib.hid (HE0.out hsum)
    rw [decide_eq_true hsum]
    clear hsum
    go_wp2_with fail
    go_ret3
    unfold HdC
    rw [HE.out]
    exact ⟨rfl, HO3.out⟩
  · have HE := Lib.hid (HE1.out hsum)
    rw [decide_eq_false hsum]
    clear hsum
    go_wp2_with fail
    go_ret3
    unfold HdC
    rw [HE.out]
    exact ⟨rfl, HO3.out⟩
end Go.Proofs.Ytmojlfgfaabegaa
