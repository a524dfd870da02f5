/- Contracts of the reference of chapter 4 (May, MaySigned, half, Unsigned, Bits, SignedBits, Code, SignedCode) and of its laws' sanity check. -/
import Derived.Test.YtkojnmphgdlmdaaVw
import Derived.Test.YtkojnmphgdlmdaaBase2
import Derived.Deep.RegionHeld3
namespace Go.Proofs.Ytkojnmphgdlmdaa
open Go.RowKit bt

theorem w64_two (k : Nat) (h : k ≤ 15) : wrap64 (2 * 2 ^ k) = ((2 ^ (k + 1) : Nat) : Int) := by
  have e : (2 * 2 ^ k : Int) = ((2 ^ (k + 1) : Nat) : Int) := by rw [Nat.pow_succ]; simp; exact Int.mul_comm _ _
  have hpk : (2 : Nat) ^ (k + 1) ≤ 2 ^ 16 := Nat.pow_le_pow_right (by omega) (by omega)
  rw [e]
  generalize 2 ^ (k + 1) = q at hpk
  unfold wrap64
  omega
theorem refHalf_any (w : World) (v : Nat) (hv : v ≤ 65534) : Calls Try.prog 43 #[.int .i64 (v : Int)] w fun e w' => e = .returned (.int .i64 (hlf v : Int)) ∧ w = w' := by
  have hl := hlf_le hv
  go_enter Try.func43, Try.ntmps43
  go_wp2
  go_loop [3] (fun i => ∃ k : Nat, k ≤ hlf v ∧ i = .int .i64 k) (fun i => hlf v - (intOf i).toNat)
  case atStart => exact ⟨0, Nat.zero_le _, rfl⟩
  case round =>
    obtain ⟨k, hk, rfl⟩ := hrel
    have hsp := hlf_spec v
    have hw := w64_two k (by omega)
    have Hw := Lib.hid hw
    have Hsp := Lib.hid hsp
    clear hw hsp
    by_cases hlt : k < hlf v
    · have h1 : (2 : Nat) ^ (k + 1) ≤ 2 ^ hlf v := Nat.pow_le_pow_right (by omega) (by omega)
      have H1 := Lib.hid h1
      clear h1
      go_wp2
      · go_round
        case rel => exact ⟨k + 1, by omega, by go_num⟩
        case measure => simp [intOf]; omega
      · exfalso
        have hc : (v : Int) + 1 < wrap64 (2 * 2 ^ k) := by assumption
        rw [Hw.out] at hc
        have := H1.out
        have := Hsp.out
        omega
    · obtain rfl : k = hlf v := by omega
      go_wp2
      · exfalso
        have hc : wrap64 (2 * 2 ^ hlf v) ≤ (v : Int) + 1 := by assumption
        rw [Hw.out] at hc
        have := Hsp.out
        omega
      · go_ret
        exact ⟨rfl, rfl⟩
theorem refUnsigned_any (w : World) (v : Int) (hv : -100000 ≤ v ∧ v ≤ 100000) :
    Calls Try.prog 44 #[.int .i64 v] w fun e w' => e = .returned (.int .i64 (fold v : Int)) ∧ w = w' := by
  by_cases h : 0 < v
  · have e : 2 * v - 1 = (fold v : Int) := by unfold fold; rw [if_pos h]; omega
    have He := Lib.hid e
    clear e
    go_enter Try.func44, Try.ntmps44
    go_wp2
    go_ret
    exact ⟨congrArg Ending.returned (congrArg (Value.int IntKind.i64) He.out), rfl⟩
  · have e : -2 * v = (fold v : Int) := by unfold fold; rw [if_neg h]; omega
    have He := Lib.hid e
    clear e
    go_enter Try.func44, Try.ntmps44
    go_wp2
    go_ret
    exact ⟨congrArg Ending.returned (congrArg (Value.int IntKind.i64) He.out), rfl⟩
/-- What Code has made. -/
def Coded (w : World) (v : Nat) (e : Ending) (w' : World) : Prop :=
  ∃ A c, e = .returned (.slice A (code v).length c) ∧ w'.ownsRow 0 5 1 (.slice A (code v).length c) (code v).length (bytesV (flat (code v))) ∧ Only [] w w'
theorem flat_zeros (k : Nat) : (List.replicate k (Value.int .u8 0)) = bytesV (flat (List.replicate k false)) := by simp [bytesV, flat]

theorem coded_of {w w6 : World} {v c6 : Nat} {A6 : Option Addr} (hown : w6.ownsRow 0 5 1 (.slice A6 (hlf v + (hlf v + 1)) c6) (hlf v + (hlf v + 1)) (List.replicate (hlf v) (.int .u8 0) ++ bytesV (flat (bitsOf (v + 1) (hlf v + 1))))) (ho : Only [] w w6) :
    Coded w v (.returned (.slice A6 (hlf v + (hlf v + 1)) c6)) w6 := by
  have e : (code v).length = hlf v + (hlf v + 1) := by rw [code_length]; omega
  refine ⟨A6, c6, by rw [e], ?_, ho⟩
  rw [e]
  unfold code
  rw [flat_append, bytesV_append, ← flat_zeros]
  exact hown
/-- Bytes 0, as a new row has them. -/
def zeroArr (k : Nat) : Array Value := (List.replicate k (.int .u8 0)).toArray
theorem run_mk_u8 (k : Nat) (hk : k ≤ 1099511627776) (w : World) : (Instr.makeSlice 29 (.int .i64 (k : Int)) (.int .i64 (k : Int))).run Try.prog w = .ok (.slice (some ⟨w.heap.size, 0, none⟩) k k) (w.alloc (.cells (zeroArr k) 5)) := by
  obtain ⟨i0, hi0, hz0, hz1, hz2⟩ := info_parts info_u8
  have hrun := run_make (P := Try.prog) w 29 5 i0 (.int .u8 0) Try.underlying29 hi0 hz0 .i64 .i64 (k : Int) (k : Int) (by omega) (by omega) (by rw [hz2]; omega) (by omega)
  rw [hz1, Int.toNat_natCast, madeCells_one _ rfl] at hrun
  exact hrun

set_option maxHeartbeats 1000000 in
theorem refCode_any (w : World) (v : Nat) (hv : v ≤ 65534) : Calls Try.prog 29 #[.int .i64 (v : Int)] w (Coded w v) := by
  have hl := hlf_le hv
  obtain ⟨i0, hi0, hz0, hz1, hz2⟩ := info_parts info_u8
  go_enter Try.func29, Try.ntmps29
  go_wp2_with fail
  refine (refHalf_any _ _ hv).mono ?_
  rintro e w1 ⟨rfl, rfl⟩
  go_wp2_with fail
  have hw1 : IntKind.i64.wrap ((v : Int) + 1) = (v : Int) + 1 := IntWalk.i64_in _ (by omega)
  have hw2 : IntKind.i64.wrap ((hlf v : Int) + 1) = (hlf v : Int) + 1 := IntWalk.i64_in _ (by omega)
  have hw3 : IntKind.u32.wrap ((v : Int) + 1) = (v : Int) + 1 := by rw [IntKind.wrap_u32']; omega
  have hmk := run_mk_u8 (hlf v) (by omega)
  have hB0 : Blk ((w.alloc (.cells (zeroArr (hlf v)) 5)).drew) w.heap.size 5 (List.replicate (hlf v) (.int .u8 0)).toArray := (Blk.new _ _ _).drew
  have HB0 := Lib.hid hB0
  clear hB0
  go_region_held3 (fun _ => True) (trivial)
    (first
     | (refine step_app _ rfl _ _ 29 (by rfl) 5 i0 (.int .u8 0) 1 1 Try.underlying29 hi0 hz0 hz1 hz2 rfl (by decide) _ (hlf v) (hlf v) (List.replicate (hlf v) (.int .u8 0)) (by rfl) (by first | exact own_of_blk (HB0.out.only hoB (by simp)) (by simp) (by unfold maxLen; omega) | exact own_of_blk HBw.out (by simp) (by unfold maxLen; omega)) A5 (hlf v + 1) c5 (bytesV (flat (bitsOf (v + 1) (hlf v + 1)))) (by rfl) (by first | exact Reads.of_own hownB | exact HRb.out) (bytesV_one _) (by unfold maxLen; omega) (by omega) ?_; intro A6 c6 w6 hown6 ho6 hf6)
     | (go_at_call 34; refine (refBits_any _ (v + 1) (hlf v + 1) (by omega) (by omega)).mono ?_; rintro e wb ⟨A5, c5, rfl, hownB, hoB, hfB⟩; have HBw := Lib.hid (show Blk (wb.alloc (.cells (zeroArr (hlf v)) 5)) wb.heap.size 5 (List.replicate (hlf v) (.int .u8 0)).toArray from Blk.new _ _ _); have HRb := Lib.hid ((Reads.of_own hownB).alloc (.cells (zeroArr (hlf v)) 5))))
  · go_wp2
    go_ret
    exact coded_of hown6 (((((Only.refl [] w).alloc _).drew).then hoB).first ho6 (by simp [rowFp, Value.ownBlock]))
  · go_wp2
    go_ret
    exact coded_of hown6 (((((Only.refl [] w).drew).then hoB).alloc _).first ho6 (by have := hoB.size; simp [rowFp, Value.ownBlock] at this ⊢; exact this))
theorem refSCode_any (w : World) (v : Int) (hv : -32767 ≤ v ∧ v ≤ 32767) : Calls Try.prog 30 #[.int .i64 v] w (Coded w (fold v)) := by
  have hl := fold_le hv.1 hv.2
  go_enter Try.func30, Try.ntmps30
  go_wp2_with fail
  refine (refUnsigned_any _ _ (by omega)).mono ?_
  rintro e w1 ⟨rfl, rfl⟩
  go_wp2_with fail
  refine (refCode_any _ _ hl).mono ?_
  rintro e w1 ⟨A, c, rfl, hown, ho⟩
  go_wp2_with fail
  go_ret
  exact ⟨A, c, rfl, hown, ho⟩

theorem code7 : payload ([] ++ uCode 7) = [17] := by decide
end Go.Proofs.Ytkojnmphgdlmdaa
