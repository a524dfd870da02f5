/- Contracts of package vlc's writing half: fold, Bits, SignedBits, PutUnsigned, PutSigned; and of the reference's May, MaySigned, half, Unsigned, Bits, SignedBits, Code, SignedCode. -/
import Derived.Test.YtkojnmphgdlmdaaVp
import Derived.Test.YtkojnmphgdlmdaaTk
namespace Go.Proofs.Ytkojnmphgdlmdaa
open Go.RowKit bt

theorem bitLen_hlf (v : Nat) (h : v ≤ 65534) : Lib.bitLen (v + 1) = hlf v + 1 := by
  obtain ⟨k, e, h1, h2, _⟩ := bitLen_spec16 (v + 1) (by omega) (by omega)
  rw [e, hlf_of h1 h2]

/-- What PutUnsigned returns and appends. -/
def uPutErr (v : Int) : Int := if v < 0 ∨ 65534 < v then 2 else 0
def uCode (v : Int) : List Bool := if uPutErr v = 0 then code v.toNat else []
def uBits (v : Int) : Int := if uPutErr v = 0 then 2 * (hlf v.toNat : Int) + 1 else 0
theorem uCode_length (v : Int) : ((uCode v).length : Int) = uBits v := by
  unfold uCode uBits
  split
  · rw [code_length]; omega
  · rfl
theorem uPut_zero {v : Int} (h : uPutErr v = 0) : 0 ≤ v ∧ v ≤ 65534 := by
  unfold uPutErr at h
  split at h
  · cases h
  · omega
theorem uCode_le (v : Int) : (uCode v).length ≤ 31 := by
  unfold uCode
  split
  · rename_i h
    have := uPut_zero h
    have := hlf_le (v := v.toNat) (by omega)
    rw [code_length]; omega
  · simp

theorem vlcBits_any (w : World) (v : Int) (hv : -9223372036854775808 ≤ v ∧ v ≤ 9223372036854775807) :
    Calls Try.prog 31 #[.int .i64 v] w fun e w' => e = .returned (.int .i64 (uBits v)) ∧ w = w' := by
  unfold uBits uPutErr
  by_cases h1 : v < 0
  · have hd1 : decide (v < 0) = true := by simpa using h1
    rw [if_pos (Or.inl h1)]
    go_enter Try.func31, Try.ntmps31
    go_wp2
    go_ret
    exact ⟨rfl, rfl⟩
  · have hd1 : decide (v < 0) = false := by simp; omega
    by_cases h2 : 65534 < v
    · have hd2 : decide (65534 < v) = true := by simpa using h2
      rw [if_pos (Or.inr h2)]
      go_enter Try.func31, Try.ntmps31
      go_wp2
      go_ret
      exact ⟨rfl, rfl⟩
    · have hd2 : decide (65534 < v) = false := by simp; omega
      rw [if_neg (by omega : ¬ (v < 0 ∨ 65534 < v)), if_pos rfl]
      have hb := bitLen_hlf v.toNat (by omega)
      have e : (v + 1).toNat = v.toNat + 1 := by omega
      have hl := hlf_le (v := v.toNat) (by omega)
      have Hb := Lib.hid hb
      have He := Lib.hid e
      clear hb e
      go_enter Try.func31, Try.ntmps31
      go_wp2_with fail
      refine (len_bits_any _ _ (by omega) (by omega)).mono ?_
      rintro e w' ⟨rfl, rfl⟩
      rw [He.out, Hb.out]
      go_wp2_with fail
      go_ret
      refine ⟨congrArg Ending.returned (congrArg (Value.int IntKind.i64) ?_), rfl⟩
      omega

theorem fold_any (w : World) (v : Int) (hv : -100000 ≤ v ∧ v ≤ 100000) :
    Calls Try.prog 42 #[.int .i64 v] w fun e w' => e = .returned (.int .i64 (fold v : Int)) ∧ w = w' := by
  by_cases h : 0 < v
  · have e : 2 * v - 1 = (fold v : Int) := by unfold fold; rw [if_pos h]; omega
    have He := Lib.hid e
    clear e
    go_enter Try.func42, Try.ntmps42
    go_wp2
    go_ret
    exact ⟨congrArg Ending.returned (congrArg (Value.int IntKind.i64) He.out), rfl⟩
  · have e : -2 * v = (fold v : Int) := by unfold fold; rw [if_neg h]; omega
    have He := Lib.hid e
    clear e
    go_enter Try.func42, Try.ntmps42
    go_wp2
    go_ret
    exact ⟨congrArg Ending.returned (congrArg (Value.int IntKind.i64) He.out), rfl⟩

set_option maxHeartbeats 1000000 in
theorem putU_any (w : World) (g : Nat) (F : List Nat) (l : List Bool) (v : Int) (h : WriterIs w g F l) (hv : -9223372036854775808 ≤ v ∧ v ≤ 9223372036854775807) (hl : l.length ≤ 1000000000) :
    Calls Try.prog 26 #[.pointer (some ⟨g, 0, none⟩), .int .i64 v] w fun e w' => e = .returned (.int .i64 (uPutErr v)) ∧ ∃ F', WriterIs w' g F' (l ++ uCode v) ∧ Only F w w' ∧ Fresh w F F' := by
  unfold uCode uPutErr
  by_cases h1 : v < 0
  · have hd1 : decide (v < 0) = true := by simpa using h1
    simp only [if_pos (Or.inl h1 : v < 0 ∨ 65534 < v)]
    have Hh := Lib.hid h
    clear h
    go_enter Try.func26, Try.ntmps26
    go_wp2
    go_ret
    exact ⟨rfl, F, by simpa using Hh.out, Only.refl _ _, Fresh.refl _ _⟩
  · have hd1 : decide (v < 0) = false := by simp; omega
    by_cases h2 : 65534 < v
    · have hd2 : decide (65534 < v) = true := by simpa using h2
      simp only [if_pos (Or.inr h2 : v < 0 ∨ 65534 < v)]
      have Hh := Lib.hid h
      clear h
      go_enter Try.func26, Try.ntmps26
      go_wp2
      go_ret
      exact ⟨rfl, F, by simpa using Hh.out, Only.refl _ _, Fresh.refl _ _⟩
    · have hd2 : decide (65534 < v) = false := by simp; omega
      simp only [if_neg (by omega : ¬ (v < 0 ∨ 65534 < v)), if_true]
      obtain ⟨v', rfl⟩ : ∃ v' : Nat, v = v' := ⟨v.toNat, by omega⟩
      simp only [Int.toNat_natCast]
      have hb := bitLen_hlf v' (by omega)
      have e : ((v' : Int) + 1).toNat = v' + 1 := by omega
      have hhl := hlf_le (v := v') (by omega)
      have hsp := hlf_spec v'
      have Hb := Lib.hid hb
      have He := Lib.hid e
      have Hsp := Lib.hid hsp
      have Hh := Lib.hid h
      clear hb e hsp h
      go_enter Try.func26, Try.ntmps26
      go_wp2_with fail
      refine (len_bits_any _ _ (by omega) (by omega)).mono ?_
      rintro e w' ⟨rfl, rfl⟩
      rw [He.out, Hb.out]
      have ek : (((hlf v' + 1 : Nat) : Int) - 1) = (hlf v' : Int) := by omega
      go_wp2_with fail
      refine (put_ok _ _ _ _ 0 (hlf v') Hh.out (by omega) (Nat.two_pow_pos _) (by omega)).mono ?_
      rintro e w1 ⟨rfl, F1, hw1, ho1, hf1⟩
      clear ek
      go_wp2_with fail
      have e1 : ((v' : Int) + 1) % 4294967296 = ((v' + 1 : Nat) : Int) := by omega
      have e2 : ((hlf v' : Int) + 1) = ((hlf v' + 1 : Nat) : Int) := by omega
      first | rw [e1] | rw [show ((v' : Int) + 1) = ((v' + 1 : Nat) : Int) from by omega]
      rw [e2]
      clear e1 e2
      refine (put_ok _ _ _ _ (v' + 1) (hlf v' + 1) hw1 (by omega) Hsp.out.2 (by simp [bitsOf_length]; omega)).mono ?_
      rintro e w2 ⟨rfl, F2, hw2, ho2, hf2⟩
      go_wp2_with fail
      go_ret
      refine ⟨rfl, F2, ?_, ho1.trans ho2 hf1, hf1.trans ho1.size hf2⟩
      rw [bitsOf_zero, List.append_assoc] at hw2
      exact hw2
theorem putU_nil (w : World) (v : Int) : Calls Try.prog 26 #[.pointer none, .int .i64 v] w fun e w' => e = .returned (.int .i64 1) ∧ w = w' := by
  go_enter Try.func26, Try.ntmps26
  go_wp2
  go_ret
  exact ⟨rfl, rfl⟩

/-- What PutSigned returns and appends. -/
def sPutErr (v : Int) : Int := if v < -32767 ∨ 32767 < v then 2 else 0
def sCode (v : Int) : List Bool := if sPutErr v = 0 then code (fold v) else []
def sBits (v : Int) : Int := if sPutErr v = 0 then 2 * (hlf (fold v) : Int) + 1 else 0
theorem sCode_length (v : Int) : ((sCode v).length : Int) = sBits v := by
  unfold sCode sBits
  split
  · rw [code_length]; omega
  · rfl
theorem sPut_zero {v : Int} (h : sPutErr v = 0) : -32767 ≤ v ∧ v ≤ 32767 := by
  unfold sPutErr at h
  split at h
  · cases h
  · omega
theorem sCode_le (v : Int) : (sCode v).length ≤ 31 := by
  unfold sCode
  split
  · rename_i h
    have h1 := sPut_zero h
    have := hlf_le (fold_le h1.1 h1.2)
    rw [code_length]; omega
  · simp
theorem fold_u {v : Int} (h : sPutErr v = 0) : uPutErr (fold v : Int) = 0 ∧ uCode (fold v : Int) = sCode v ∧ uBits (fold v : Int) = sBits v := by
  have h1 := sPut_zero h
  have h2 := fold_le h1.1 h1.2
  have e : uPutErr (fold v : Int) = 0 := by unfold uPutErr; rw [if_neg (by omega)]
  refine ⟨e, ?_, ?_⟩
  · unfold uCode sCode; rw [if_pos e, if_pos h]; rfl
  · unfold uBits sBits; rw [if_pos e, if_pos h]; rfl

theorem putS_any (w : World) (g : Nat) (F : List Nat) (l : List Bool) (v : Int) (h : WriterIs w g F l) (hv : -9223372036854775808 ≤ v ∧ v ≤ 9223372036854775807) (hl : l.length ≤ 1000000000) :
    Calls Try.prog 27 #[.pointer (some ⟨g, 0, none⟩), .int .i64 v] w fun e w' => e = .returned (.int .i64 (sPutErr v)) ∧ ∃ F', WriterIs w' g F' (l ++ sCode v) ∧ Only F w w' ∧ Fresh w F F' := by
  have Hh := Lib.hid h
  clear h
  by_cases h1 : v < -32767
  · have hd1 : decide (v < -32767) = true := by simpa using h1
    have e1 : sPutErr v = 2 := by unfold sPutErr; rw [if_pos (Or.inl h1)]
    have e2 : sCode v = [] := by unfold sCode; rw [e1]; rfl
    rw [e1, e2]
    clear e1 e2
    go_enter Try.func27, Try.ntmps27
    go_wp2
    go_ret
    exact ⟨rfl, F, by simpa using Hh.out, Only.refl _ _, Fresh.refl _ _⟩
  · have hd1 : decide (v < -32767) = false := by simp; omega
    by_cases h2 : 32767 < v
    · have hd2 : decide (32767 < v) = true := by simpa using h2
      have e1 : sPutErr v = 2 := by unfold sPutErr; rw [if_pos (Or.inr h2)]
      have e2 : sCode v = [] := by unfold sCode; rw [e1]; rfl
      rw [e1, e2]
      clear e1 e2
      go_enter Try.func27, Try.ntmps27
      go_wp2
      go_ret
      exact ⟨rfl, F, by simpa using Hh.out, Only.refl _ _, Fresh.refl _ _⟩
    · have hd2 : decide (32767 < v) = false := by simp; omega
      have e1 : sPutErr v = 0 := by unfold sPutErr; rw [if_neg (by omega)]
      obtain ⟨e3, e4, _⟩ := fold_u e1
      have hfl := fold_le (v := v) (by omega) (by omega)
      rw [e1, ← e4]
      have E3 := Lib.hid e3
      clear e1 e3 e4
      go_enter Try.func27, Try.ntmps27
      go_wp2_with fail
      refine (fold_any _ _ (by omega)).mono ?_
      rintro e w1 ⟨rfl, rfl⟩
      go_wp2_with fail
      refine (putU_any _ _ _ _ _ Hh.out (by omega) hl).mono ?_
      rintro e w1 ⟨rfl, F1, hw1, ho1, hf1⟩
      rw [E3.out]
      go_wp2_with fail
      go_ret
      exact ⟨rfl, F1, hw1, ho1, hf1⟩
theorem putS_nil (w : World) (v : Int) : Calls Try.prog 27 #[.pointer none, .int .i64 v] w fun e w' => e = .returned (.int .i64 1) ∧ w = w' := by
  go_enter Try.func27, Try.ntmps27
  go_wp2
  go_ret
  exact ⟨rfl, rfl⟩
theorem vlcSBits_any (w : World) (v : Int) (hv : -9223372036854775808 ≤ v ∧ v ≤ 9223372036854775807) :
    Calls Try.prog 32 #[.int .i64 v] w fun e w' => e = .returned (.int .i64 (sBits v)) ∧ w = w' := by
  by_cases h1 : v < -32767
  · have hd1 : decide (v < -32767) = true := by simpa using h1
    have e2 : sBits v = 0 := by unfold sBits sPutErr; rw [if_pos (Or.inl h1)]; rfl
    rw [e2]
    clear e2
    go_enter Try.func32, Try.ntmps32
    go_wp2
    go_ret
    exact ⟨rfl, rfl⟩
  · have hd1 : decide (v < -32767) = false := by simp; omega
    by_cases h2 : 32767 < v
    · have hd2 : decide (32767 < v) = true := by simpa using h2
      have e2 : sBits v = 0 := by unfold sBits sPutErr; rw [if_pos (Or.inr h2)]; rfl
      rw [e2]
      clear e2
      go_enter Try.func32, Try.ntmps32
      go_wp2
      go_ret
      exact ⟨rfl, rfl⟩
    · have hd2 : decide (32767 < v) = false := by simp; omega
      have e1 : sPutErr v = 0 := by unfold sPutErr; rw [if_neg (by omega)]
      obtain ⟨_, _, e4⟩ := fold_u e1
      have hfl := fold_le (v := v) (by omega) (by omega)
      rw [← e4]
      clear e1 e4
      go_enter Try.func32, Try.ntmps32
      go_wp2_with fail
      refine (fold_any _ _ (by omega)).mono ?_
      rintro e w1 ⟨rfl, rfl⟩
      go_wp2_with fail
      refine (vlcBits_any _ _ (by omega)).mono ?_
      rintro e w1 ⟨rfl, rfl⟩
      go_wp2_with fail
      go_ret
      exact ⟨rfl, rfl⟩
end Go.Proofs.Ytkojnmphgdlmdaa
