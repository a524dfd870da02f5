/- hasSum. -/
import Derived.Test.YtmojlfgfaabegaaA7
namespace Go.Proofs.Ytmojlfgfaabegaa
open Go.RowKit bt

theorem two_last {p : List Nat} (h : 2 ≤ p.length) : ∃ q x y, p = q ++ [x, y] ∧ q = p.take (p.length - 2) := by
  refine ⟨p.take (p.length - 2), p[p.length - 2]'(by omega), p[p.length - 1]'(by omega), ?_, rfl⟩
  apply List.ext_getElem
  · simp; omega
  · intro i h1 h2
    rw [List.getElem_append]
    split
    · rename_i h3
      simp
    · rename_i h3
      simp at h3 h2
      have hi : i = p.length - 2 ∨ i = p.length - 1 := by omega
      rcases hi with rfl | rfl
      · simp
      · have : p.length - 1 - (p.take (p.length - 2)).length = 1 := by simp; omega
        simp only [this]; rfl
theorem u16_or_nat (a b : Nat) (ha : a < 65536) (hb : b < 65536) : bits .or .u16 (a : Int) (b : Int) = ((a ||| b : Nat) : Int) := by
  have hx : a ||| b < 2 ^ 16 := Nat.or_lt_two_pow (by omega) (by omega)
  show IntKind.u16.wrap ((BitVec.ofInt 16 (a : Int) ||| BitVec.ofInt 16 (b : Int)).toNat : Int) = _
  rw [BitVec.toNat_or, ofInt_u16 a ha, ofInt_u16 b hb, IntKind.wrap_u16]
  omega
set_option maxRecDepth 100000 in
set_option maxHeartbeats 2000000 in
theorem hasSum_any (w : World) (A : Option Addr) (c : Nat) (q : List Nat) (x y : Nat) (hr : Reads w A 1 (q.length + 2) (bytesV (q ++ [x, y]))) (hc : q.length + 2 ≤ c) (hq : ∀ z ∈ q, z < 256) (hx : x < 256) (hy : y < 256) (hl : q.length ≤ 1000000) :
    Calls Try.prog 33 #[.slice A (q.length + 2) c] w fun e w' => e = .returned (.bool (decide (crc q = x * 256 + y))) ∧ Only [] w w' := by
  have rq : Reads w A 1 q.length (bytesV q) := by
    have := hr.front (k := q.length) (by omega)
    rw [bytesV_append, Nat.mul_one, show q.length = (bytesV q).length from (bytesV_length q).symm, List.take_left'  rfl] at this
    rw [bytesV_length] at this; exact this
  obtain ⟨b, off, rfl, hcell⟩ := hr.plain (by omega) (by omega)
  have cx : w.cell? ⟨b, off + q.length, none⟩ = some (.int .u8 (x : Int)) := hcell _ _ (by simp [bytesV])
  have cy : w.cell? ⟨b, off + (q.length + 1), none⟩ = some (.int .u8 (y : Int)) := hcell _ _ (by simp [bytesV])
  have fx0 : ∀ w', Cls w w' → w'.cell? ⟨b, off + q.length, none⟩ = some (.int .u8 (x : Int)) := fun w' h => h.cell cx
  have fy0 : ∀ w', Cls w w' → w'.cell? ⟨b, off + (q.length + 1), none⟩ = some (.int .u8 (y : Int)) := fun w' h => h.cell cy
  have HQ := Lib.hid hq
  have RQ := Lib.hid rq
  have e1 : IntKind.u16.wrap ((x : Int) * 256) = ((x * 256 : Nat) : Int) := by rw [IntKind.wrap_u16]; omega
  have e2 : bits .or .u16 ((x * 256 : Nat) : Int) (y : Int) = ((x * 256 + y : Nat) : Int) := by
    rw [u16_or_nat _ _ (by omega) (by omega), Nat.mul_comm x 256, show 256 = 2 ^ 8 from rfl, ← Nat.two_pow_add_eq_or_of_lt (by omega)]
  have HR := Lib.hid (show ∀ w', Cls w w' → Calls Try.prog 13 #[.slice (some ⟨b, off, none⟩) q.length c] w' fun e w'' => e = .returned (.int .u16 (crc q : Int)) ∧ Only [] w' w'' from fun w' hC => sum_any w' (some ⟨b, off, none⟩) c q (hC.reads RQ.out) HQ.out (by omega))
  generalize hX : x * 256 = X at e1 e2
  generalize hY : X + y = Y at e2
  have HY := Lib.hid hY
  generalize crc q = R at HR ⊢
  obtain ⟨t, ht⟩ : ∃ t, t = decide (R = Y) := ⟨_, rfl⟩
  have HT := Lib.hid ht
  have t1 : decide (R = Y) = t := ht.symm
  have t2 : ((R : Int) == (Y : Int)) = t := by rw [ht, Bool.eq_iff_iff, beq_iff_eq, decide_eq_true_iff]; omega
  have t3 : decide ((R : Int) = (Y : Int)) = t := by rw [ht, decide_eq_decide]; omega
  rw [t1]
  clear hr rq hq hcell cx cy hX hY ht RQ HQ
  go_enter Try.func33, Try.ntmps33
  go_wp2_with fail
  refine rgn (Cls w) (by kernel_rfl) (by kernel_rfl) Cls.refl ?_
  refine qW (.int .i64 (q.length : Int)) rfl rfl (fun w hC K hK => ?_) ?_
  · have fx := fx0 w hC
    have fy := fy0 w hC
    (go_wp2_with fail) <;> (first | exact hC | exact hK _ hC)
  simp only [Act.put, List.setIfInBounds_toArray, List.set_cons_zero, List.set_cons_succ]
  refine qW (.bool true) rfl rfl (fun w hC K hK => ?_) ?_
  · have fx := fx0 w hC
    have fy := fy0 w hC
    (go_wp2_with fail) <;> (first | exact hC | exact hK _ hC)
  simp only [Act.put, List.setIfInBounds_toArray, List.set_cons_zero, List.set_cons_succ]
  refine qW (.bool true) rfl rfl (fun w hC K hK => ?_) ?_
  · have fx := fx0 w hC
    have fy := fy0 w hC
    (go_wp2_with fail) <;> (first | exact hC | exact hK _ hC)
  simp only [Act.put, List.setIfInBounds_toArray, List.set_cons_zero, List.set_cons_succ]
  refine qW (.slice (some ⟨b, off, none⟩) (q.length + 2) c) rfl rfl (fun w hC K hK => ?_) ?_
  · have fx := fx0 w hC
    have fy := fy0 w hC
    (go_wp2_with fail) <;> (first | exact hC | exact hK _ hC)
  simp only [Act.put, List.setIfInBounds_toArray, List.set_cons_zero, List.set_cons_succ]
  refine qW (.int .i64 (q.length : Int)) rfl rfl (fun w hC K hK => ?_) ?_
  · have fx := fx0 w hC
    have fy := fy0 w hC
    (go_wp2_with fail) <;> (first | exact hC | exact hK _ hC)
  simp only [Act.put, List.setIfInBounds_toArray, List.set_cons_zero, List.set_cons_succ]
  refine qW (.slice (some ⟨b, off, none⟩) q.length c) rfl rfl (fun w hC K hK => ?_) ?_
  · have fx := fx0 w hC
    have fy := fy0 w hC
    (go_wp2_with fail) <;> (first | exact hC | exact hK _ hC)
  simp only [Act.put, List.setIfInBounds_toArray, List.set_cons_zero, List.set_cons_succ]
  refine qC (fun w hC => Calls.cls hC (HR.out w hC)) rfl (fun w => ?_) ?_
  · go_simp; try rfl
  simp only [Act.put, List.setIfInBounds_toArray, List.set_cons_zero, List.set_cons_succ]
  refine qW (.slice (some ⟨b, off, none⟩) (q.length + 2) c) rfl rfl (fun w hC K hK => ?_) ?_
  · have fx := fx0 w hC
    have fy := fy0 w hC
    (go_wp2_with fail) <;> (first | exact hC | exact hK _ hC)
  simp only [Act.put, List.setIfInBounds_toArray, List.set_cons_zero, List.set_cons_succ]
  refine qW (.int .i64 (q.length : Int)) rfl rfl (fun w hC K hK => ?_) ?_
  · have fx := fx0 w hC
    have fy := fy0 w hC
    (go_wp2_with fail) <;> (first | exact hC | exact hK _ hC)
  simp only [Act.put, List.setIfInBounds_toArray, List.set_cons_zero, List.set_cons_succ]
  refine qW (.pointer (some ⟨b, off + q.length, none⟩)) rfl rfl (fun w hC K hK => ?_) ?_
  · have fx := fx0 w hC
    have fy := fy0 w hC
    (go_wp2_with fail) <;> (first | exact hC | exact hK _ hC)
  simp only [Act.put, List.setIfInBounds_toArray, List.set_cons_zero, List.set_cons_succ]
  refine qW (.int .u8 (x : Int)) rfl rfl (fun w hC K hK => ?_) ?_
  · have fx := fx0 w hC
    have fy := fy0 w hC
    (go_wp2_with fail) <;> (first | exact hC | exact hK _ hC)
  simp only [Act.put, List.setIfInBounds_toArray, List.set_cons_zero, List.set_cons_succ]
  refine qW (.int .u16 (x : Int)) rfl rfl (fun w hC K hK => ?_) ?_
  · have fx := fx0 w hC
    have fy := fy0 w hC
    (go_wp2_with fail) <;> (first | exact hC | exact hK _ hC)
  simp only [Act.put, List.setIfInBounds_toArray, List.set_cons_zero, List.set_cons_succ]
  refine qW (.int .u16 (X : Int)) rfl rfl (fun w hC K hK => ?_) ?_
  · have fx := fx0 w hC
    have fy := fy0 w hC
    (go_wp2_with fail) <;> (first | exact hC | exact hK _ hC)
  simp only [Act.put, List.setIfInBounds_toArray, List.set_cons_zero, List.set_cons_succ]
  refine qW (.slice (some ⟨b, off, none⟩) (q.length + 2) c) rfl rfl (fun w hC K hK => ?_) ?_
  · have fx := fx0 w hC
    have fy := fy0 w hC
    (go_wp2_with fail) <;> (first | exact hC | exact hK _ hC)
  simp only [Act.put, List.setIfInBounds_toArray, List.set_cons_zero, List.set_cons_succ]
  refine qW (.int .i64 (q.length : Int)) rfl rfl (fun w hC K hK => ?_) ?_
  · have fx := fx0 w hC
    have fy := fy0 w hC
    (go_wp2_with fail) <;> (first | exact hC | exact hK _ hC)
  simp only [Act.put, List.setIfInBounds_toArray, List.set_cons_zero, List.set_cons_succ]
  refine qW (.int .i64 (q.length + 1 : Int)) rfl rfl (fun w hC K hK => ?_) ?_
  · have fx := fx0 w hC
    have fy := fy0 w hC
    (go_wp2_with fail) <;> (first | exact hC | exact hK _ hC)
  simp only [Act.put, List.setIfInBounds_toArray, List.set_cons_zero, List.set_cons_succ]
  refine qW (.pointer (some ⟨b, off + (q.length + 1), none⟩)) rfl rfl (fun w hC K hK => ?_) ?_
  · have fx := fx0 w hC
    have fy := fy0 w hC
    (go_wp2_with fail) <;> (first | exact hC | exact hK _ hC)
  simp only [Act.put, List.setIfInBounds_toArray, List.set_cons_zero, List.set_cons_succ]
  refine qW (.int .u8 (y : Int)) rfl rfl (fun w hC K hK => ?_) ?_
  · have fx := fx0 w hC
    have fy := fy0 w hC
    (go_wp2_with fail) <;> (first | exact hC | exact hK _ hC)
  simp only [Act.put, List.setIfInBounds_toArray, List.set_cons_zero, List.set_cons_succ]
  refine qW (.int .u16 (y : Int)) rfl rfl (fun w hC K hK => ?_) ?_
  · have fx := fx0 w hC
    have fy := fy0 w hC
    (go_wp2_with fail) <;> (first | exact hC | exact hK _ hC)
  simp only [Act.put, List.setIfInBounds_toArray, List.set_cons_zero, List.set_cons_succ]
  refine qW (.int .u16 (Y : Int)) rfl rfl (fun w hC K hK => ?_) ?_
  · have fx := fx0 w hC
    have fy := fy0 w hC
    (go_wp2_with fail) <;> (first | exact hC | exact hK _ hC)
  simp only [Act.put, List.setIfInBounds_toArray, List.set_cons_zero, List.set_cons_succ]
  refine qW (.bool t) rfl rfl (fun w hC K hK => ?_) ?_
  · have fx := fx0 w hC
    have fy := fy0 w hC
    (go_wp2_with fail) <;> (first | exact hC | exact hK _ hC)
  simp only [Act.put, List.setIfInBounds_toArray, List.set_cons_zero, List.set_cons_succ]
  refine qW (.bool t) rfl rfl (fun w hC K hK => ?_) ?_
  · have fx := fx0 w hC
    have fy := fy0 w hC
    (go_wp2_with fail) <;> (first | exact hC | exact hK _ hC)
  simp only [Act.put, List.setIfInBounds_toArray, List.set_cons_zero, List.set_cons_succ]
  refine qW (.bool t) rfl rfl (fun w hC K hK => ?_) ?_
  · have fx := fx0 w hC
    have fy := fy0 w hC
    (go_wp2_with fail) <;> (first | exact hC | exact hK _ hC)
  simp only [Act.put, List.setIfInBounds_toArray, List.set_cons_zero, List.set_cons_succ]
  refine qN ?_
  intro w' hw'
  go_wp2_with fail
  go_ret
  exact ⟨rfl, hw'⟩
end Go.Proofs.Ytmojlfgfaabegaa
