/- The reference's sum of bytes comes to the same; the size of a block. -/
import Derived.Test.YtmojlfgfaabegaaA1
namespace Go.Proofs.Ytmojlfgfaabegaa
open Go.RowKit bt

theorem i64_xor_nat (a b : Nat) (ha : a < 4294967296) (hb : b < 4294967296) : bits .xor .i64 (a : Int) (b : Int) = ((a ^^^ b : Nat) : Int) := by
  have hx : a ^^^ b < 2 ^ 32 := Nat.xor_lt_two_pow (by omega) (by omega)
  have ho : ∀ n : Nat, n < 4294967296 → (BitVec.ofInt 64 (n : Int)).toNat = n := fun n hn => by
    rw [BitVec.ofInt_natCast, BitVec.toNat_ofNat]; exact Nat.mod_eq_of_lt (by omega)
  show IntKind.i64.wrap ((BitVec.ofInt 64 (a : Int) ^^^ BitVec.ofInt 64 (b : Int)).toNat : Int) = _
  rw [BitVec.toNat_xor, ho a ha, ho b hb]
  exact IntWalk.i64_in _ (by omega)
/-- One bit. -/
def b1 (r : Nat) : Nat := if 32768 ≤ r then (2 * r % 65536) ^^^ 4129 else 2 * r
def b4 (q : Nat) : Nat := b1 (b1 (b1 (b1 q)))
theorem b1_lt {r : Nat} (h : r < 65536) : b1 r < 65536 := by
  unfold b1
  split
  · exact Nat.xor_lt_two_pow (n := 16) (Nat.mod_lt _ (by omega)) (by omega)
  · omega
theorem four_all : ((List.range 256).all fun a => (List.range 256).all fun b => b4 (a * 256 + b) == ((a * 256 + b) * 16 % 65536) ^^^ tb ((a * 256 + b) / 4096)) = true := by decide +kernel
theorem four {q : Nat} (h : q < 65536) : b4 q = (q * 16 % 65536) ^^^ tb (q / 4096) := by
  have h1 := List.all_eq_true.1 four_all (q / 256) (List.mem_range.2 (by omega))
  have h2 := List.all_eq_true.1 h1 (q % 256) (List.mem_range.2 (by omega))
  rw [show q / 256 * 256 + q % 256 = q by omega] at h2
  simpa using h2
def b8 (q : Nat) : Nat → Nat
  | 0 => q
  | k + 1 => b1 (b8 q k)
theorem b8_lt {q : Nat} (h : q < 65536) : ∀ k, b8 q k < 65536
  | 0 => h
  | k + 1 => b1_lt (b8_lt h k)
theorem b8_eq (q : Nat) : b8 q 8 = b4 (b4 q) := rfl
/-- A byte, both ways. -/
theorem step_eq {r x : Nat} (hr : r < 65536) (hx : x < 256) : b8 (r ^^^ (x * 256)) 8 = cs r x := by
  have hq : r ^^^ (x * 256) < 65536 := Nat.xor_lt_two_pow (n := 16) hr (by omega)
  rw [b8_eq, four hq]
  have e1 : (r ^^^ (x * 256)) / 4096 = (r / 4096) ^^^ (x / 16) := by
    have := Nat.shiftRight_xor_distrib (a := r) (b := x * 256) (i := 12)
    rw [Nat.shiftRight_eq_div_pow, Nat.shiftRight_eq_div_pow, Nat.shiftRight_eq_div_pow] at this
    rw [show (4096 : Nat) = 2 ^ 12 from rfl, this, show x * 256 / 2 ^ 12 = x / 16 by omega]
  have e2 : (r ^^^ (x * 256)) * 16 % 65536 = (r * 16 % 65536) ^^^ ((x % 16) * 4096) := by
    have := Nat.shiftLeft_xor_distrib (a := r) (b := x * 256) (i := 4)
    rw [Nat.shiftLeft_eq, Nat.shiftLeft_eq, Nat.shiftLeft_eq] at this
    rw [show (16 : Nat) = 2 ^ 4 from rfl, this, show (65536 : Nat) = 2 ^ 16 from rfl, Nat.xor_mod_two_pow, show x * 256 * 2 ^ 4 % 2 ^ 16 = x % 2 ^ 4 * 4096 by omega]
  rw [e1, e2]
  have e3 : ((r * 16 % 65536) ^^^ ((x % 16) * 4096)) ^^^ tb ((r / 4096) ^^^ (x / 16)) = s4 r (x / 16) ^^^ ((x % 16) * 4096) := by
    unfold s4
    rw [Nat.xor_assoc, Nat.xor_comm ((x % 16) * 4096), ← Nat.xor_assoc]
  rw [e3]
  generalize hR : s4 r (x / 16) = R
  have hRl : R < 65536 := by rw [← hR]; exact s4_lt _ _
  have hq2 : R ^^^ ((x % 16) * 4096) < 65536 := Nat.xor_lt_two_pow (n := 16) hRl (by omega)
  rw [four hq2]
  have e4 : (R ^^^ ((x % 16) * 4096)) / 4096 = (R / 4096) ^^^ (x % 16) := by
    have := Nat.shiftRight_xor_distrib (a := R) (b := (x % 16) * 4096) (i := 12)
    rw [Nat.shiftRight_eq_div_pow, Nat.shiftRight_eq_div_pow, Nat.shiftRight_eq_div_pow] at this
    rw [show (4096 : Nat) = 2 ^ 12 from rfl, this, show x % 16 * 2 ^ 12 / 2 ^ 12 = x % 16 by omega]
  have e5 : (R ^^^ ((x % 16) * 4096)) * 16 % 65536 = R * 16 % 65536 := by
    have := Nat.shiftLeft_xor_distrib (a := R) (b := (x % 16) * 4096) (i := 4)
    rw [Nat.shiftLeft_eq, Nat.shiftLeft_eq, Nat.shiftLeft_eq] at this
    rw [show (16 : Nat) = 2 ^ 4 from rfl, this, show (65536 : Nat) = 2 ^ 16 from rfl, Nat.xor_mod_two_pow, show x % 2 ^ 4 * 4096 * 2 ^ 4 % 2 ^ 16 = 0 by omega, Nat.xor_zero]
  rw [e4, e5]
  unfold cs
  rw [hR]
  rfl
set_option maxRecDepth 100000 in
set_option maxHeartbeats 1000000 in
theorem refSum_any (w : World) (A : Option Addr) (c : Nat) (p : List Nat) (hr : Reads w A 1 p.length (bytesV p)) (hp : ∀ x ∈ p, x < 256) (hl : p.length ≤ 1099511627776) :
    Calls Try.prog 14 #[.slice A p.length c] w fun e w' => e = .returned (.int .u16 (crc p : Int)) ∧ w = w' := by
  have Hr := Lib.hid hr
  have Hp := Lib.hid hp
  clear hr hp
  go_enter Try.func14, Try.ntmps14
  go_wp2_with fail
  go_loopw [3, 4] (fun r i wr => ∃ k : Nat, k ≤ p.length ∧ i = .int .i64 (k : Int) ∧ ∃ rv : Nat, r = .int .i64 (rv : Int) ∧ Hid (crc (p.take k) = rv) ∧ w = wr) (fun _ i _ => p.length - (intOf i).toNat)
  case atStart => exact ⟨0, Nat.zero_le _, rfl, 65535, rfl, rfl, rfl⟩
  case round =>
    obtain ⟨k, hk, rfl, rv, rfl, Hrv, rfl⟩ := hrel
    have hrv : rv < 65536 := by rw [← Hrv.out]; exact crc_lt _
    by_cases hlt : k < p.length
    · obtain ⟨x, hx⟩ : ∃ x, p[k]? = some x := ⟨_, List.getElem?_eq_getElem hlt⟩
      have hx' : (bytesV p)[k]? = some (.int .u8 (x : Int)) := by simp [bytesV, hx]
      have hx8 := Hp.out x (List.mem_of_getElem? hx)
      obtain ⟨b, off, rfl, hc⟩ := Hr.out.plain (by omega) (by omega)
      have hcx := hc _ _ hx'
      have hki : (k : Int) < (p.length : Int) := by omega
      have Hn := Lib.hid (crc_take hx)
      have Hs := Lib.hid (step_eq hrv hx8)
      have hq : rv ^^^ (x * 256) < 65536 := Nat.xor_lt_two_pow (n := 16) hrv (by omega)
      have e1 : bits BinOp.xor IntKind.i64 (rv : Int) ((x : Int) * 256) = ((rv ^^^ (x * 256) : Nat) : Int) := by
        rw [show (x : Int) * 256 = ((x * 256 : Nat) : Int) by omega]
        exact i64_xor_nat _ _ (by omega) (by omega)
      generalize rv ^^^ (x * 256) = q at e1 hq Hs
      clear hc hx' hx
      go_wp2_with fail
      go_loopw [3, 5] (fun r i wr => ∃ m : Nat, m ≤ 8 ∧ i = .int .i64 (m : Int) ∧ r = .int .i64 (b8 q m : Int) ∧ w = wr) (fun _ i _ => 8 - (intOf i).toNat)
      case atStart => exact ⟨0, by omega, rfl, rfl, rfl⟩
      case round =>
        obtain ⟨m, hm, rfl, rfl, rfl⟩ := hrel
        have hbl := b8_lt hq m
        have hbs : b8 q (m + 1) = b1 (b8 q m) := rfl
        by_cases hm8 : m < 8
        · have hmd : (m : Int) < 8 := by omega
          have Hbs := Lib.hid hbs
          generalize hB : b8 q m = B at hbl Hbs
          clear hB hbs
          by_cases hge : 32768 ≤ B
          · have e2 : bits BinOp.xor IntKind.i64 (2 * (B : Int) % 65536) 4129 = ((b1 B : Nat) : Int) := by
              unfold b1
              rw [if_pos hge, show 2 * (B : Int) % 65536 = ((2 * B % 65536 : Nat) : Int) by omega]
              exact i64_xor_nat _ 4129 (by omega) (by omega)
            have e2' : bits BinOp.xor IntKind.i64 ((2 * (B : Int)).tmod 65536) 4129 = ((b1 B : Nat) : Int) := by rw [Int.tmod_eq_emod_of_nonneg (by omega)]; exact e2
            have hge' : (32768 : Int) ≤ (B : Int) := by omega
            generalize b1 B = B1 at e2 e2' Hbs
            clear hge
            go_wp2_with fail
            go_roundw
            case rel => exact ⟨m + 1, by omega, by go_num, by rw [Hbs.out], by first | rfl | trivial⟩
            case measure => simp [intOf]; omega
          · have hgd : decide ((32768 : Int) ≤ (B : Int)) = false := decide_eq_false (by omega)
            have hlt2 : (B : Int) < 32768 := by omega
            have hb1 : ((b1 B : Nat) : Int) = 2 * (B : Int) := by unfold b1; rw [if_neg hge]; omega
            have Hb1 := Lib.hid hb1
            clear hge hb1
            go_wp2_with fail
            go_roundw
            case rel => exact ⟨m + 1, by omega, by go_num, by rw [Hbs.out, Hb1.out], by first | rfl | trivial⟩
            case measure => simp [intOf]; omega
        · have hm' : m = 8 := by omega
          subst hm'
          have Hr2 := Lib.hid (show crc (p.take (k + 1)) = b8 q 8 by rw [Hn.out, Hrv.out, Hs.out])
          clear hbs
          go_wp2_with fail
          go_roundw
          case rel => exact ⟨k + 1, by omega, by go_num, _, rfl, Hr2, by first | rfl | trivial⟩
          case measure => simp [intOf]; omega
    · have hke : k = p.length := by omega
      subst hke
      rw [List.take_length] at Hrv
      go_wp2_with fail
      go_ret
      refine ⟨?_, rfl⟩
      rw [Hrv.out]
      rfl
/-- The size of a block. -/
def bsz (n : Int) : Int := if n < 1 ∨ 4 < n then 0 else 5 + n * 292 / 8
end Go.Proofs.Ytmojlfgfaabegaa
