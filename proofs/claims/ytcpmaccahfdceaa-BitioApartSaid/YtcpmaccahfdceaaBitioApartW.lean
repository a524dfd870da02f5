/- Proved: BitioApart returns true for all lists of calls and every number; its arguments read afterwards as before. No condition. -/
import Derived.Test.YtcpmaccahfdceaaOps
import Derived.Test.YtcpmaccahfdceaaTk
namespace Go.Proofs.Ytcpmaccahfdceaa.bitioApart
open Go.ChangeShapes Go.WideShapes Go.ChangeAt Go.RowKit bt

set_option maxHeartbeats 2000000 in
theorem walk (w : World) (A : Option Addr) (c : Nat) (a : List (Nat × Int)) (hr : Reads w A 2 a.length (opsV a)) (hm : a.length ≤ maxLen) (hv : ∀ o ∈ a, o.1 < 4294967296) (_hi : ∀ o ∈ a, -9223372036854775808 ≤ o.2 ∧ o.2 ≤ 9223372036854775807)
    (B : Option Addr) (d : Nat) (b : List (Nat × Int)) (hr' : Reads w B 2 b.length (opsV b)) (hm' : b.length ≤ maxLen) (hv' : ∀ o ∈ b, o.1 < 4294967296) (_hi' : ∀ o ∈ b, -9223372036854775808 ≤ o.2 ∧ o.2 ≤ 9223372036854775807) (x : Int) (_hx : -9223372036854775808 ≤ x ∧ x ≤ 9223372036854775807) :
    Calls Try.prog 8 #[.slice A a.length c, .slice B b.length d, .int .i64 x] w fun e w' => e = .returned (.bool true) ∧ Only [] w w' := by
  unfold maxLen at hm hm'
  by_cases hn : a.length ≤ 100
  · have hd0 : decide ((100 : Int) < (a.length : Int)) = false := by simp; omega
    by_cases hn' : b.length ≤ 100
    · have hd1 : decide ((100 : Int) < (b.length : Int)) = false := by simp; omega
      have Hr := Lib.hid hr
      have Hv := Lib.hid hv
      have Hr' := Lib.hid hr'
      have Hv' := Lib.hid hv'
      have hla := putAll_le a
      have hlb := putAll_le b
      clear hr hv hr' hv' _hi _hi' _hx
      go_enter Try.func8, Try.ntmps8
      go_wp2_with fail
      refine (newWriter_any _).mono ?_
      rintro e w1 ⟨rfl, hv1, ho1⟩
      go_wp2_with fail
      refine (newWriter_any _).mono ?_
      rintro e w2 ⟨rfl, hw2, ho2⟩
      have hv2 := hv1.then ho2
      have hs1 : w.heap.size < w1.heap.size := by have := hv1.lt w.heap.size (by simp); omega
      have hs2 : w1.heap.size < w2.heap.size := by have := hw2.lt w1.heap.size (by simp); omega
      go_wp2_with fail
      refine (written_any _ _ _ _ _ a hv2 (((Hr.out.then ho1)).then ho2) (Hr.out.off_new (by omega) (by simp)) (by omega) Hv.out).mono ?_
      rintro e w3 ⟨A3, c3, F3, rfl, hv3, hx3, ho3, hf3, hg3, hd3⟩
      have hw3 := hw2.only ho3 (by simp; omega)
      have ho03 : Only [] w w3 := (ho1.then ho2).first ho3 (by simp)
      go_wp2_with fail
      refine (written_any _ _ _ _ _ b hw3 (Hr'.out.then ho03) (Hr'.out.off_new (by omega) (by simp; omega)) (by omega) Hv'.out).mono ?_
      rintro e w4 ⟨A4, c4, F4, rfl, hw4, hy4, ho4, hf4, hg4, hd4⟩
      have hv4 := hv3.only ho4 (by intro k hk; rcases hf3 k hk with h | h; simp at h ⊢; omega; simp; omega)
      have hx4 := own_only hx3 ho4 (by intro k hk; rcases hg3 k hk with h | h; cases h; simp; omega)
      have ho04 : Only [] w w4 := ho03.first ho4 (by simp; omega)
      clear hv1 ho1 hw2 ho2 hv2 hv3 hx3 ho3 hf3 hg3 hd3 hw3 ho03 hf4 hg4 hd4 ho4
      go_wp2_with fail
      refine (payload_any _ _ _ _ hv4 (by omega)).mono ?_
      rintro e w5 ⟨rfl, hp5, ho5⟩
      go_wp2_with fail
      refine (refPayload_any _ _ _ (putAll a) (Reads.of_own (own_only hx4 ho5 (by simp))) (by omega)).mono ?_
      rintro e w6 ⟨rfl, hq6, ho6⟩
      have hp6 := hp5.only ho6 (by simp)
      go_wp2_with fail
      refine (same_any _ _ _ _ _ _ _ (payload (putAll a)) (payload (putAll a)) (payload_reads hp6) (payload_reads hq6) (payload_lt _) (payload_lt _)).mono ?_
      rintro e w7 ⟨rfl, rfl⟩
      have hdt : decide (payload (putAll a) = payload (putAll a)) = true := by simp
      rw [hdt]
      clear hdt
      have ho46 := ho5.then ho6
      go_wp2_with fail
      refine (payload_any _ _ _ _ (hw4.then ho46) (by omega)).mono ?_
      rintro e w7 ⟨rfl, hp7, ho7⟩
      go_wp2_with fail
      refine (refPayload_any _ _ _ (putAll b) (Reads.of_own (own_only hy4 (ho46.then ho7) (by simp))) (by omega)).mono ?_
      rintro e w8 ⟨rfl, hq8, ho8⟩
      have hp8 := hp7.only ho8 (by simp)
      go_wp2_with fail
      refine (same_any _ _ _ _ _ _ _ (payload (putAll b)) (payload (putAll b)) (payload_reads hp8) (payload_reads hq8) (payload_lt _) (payload_lt _)).mono ?_
      rintro e w9 ⟨rfl, rfl⟩
      have hdt : decide (payload (putAll b) = payload (putAll b)) = true := by simp
      rw [hdt]
      clear hdt
      have ho68 := ho7.then ho8
      have hpa := hp6.only ho68 (by simp)
      go_wp2_with fail
      refine (newReader_payload _ _ _ (putAll a) (payload_reads hpa) (by omega)).mono ?_
      rintro e w9 ⟨rfl, hr9, ho9⟩
      go_wp2_with fail
      refine (newReader_payload _ _ _ (putAll a) (payload_reads (hpa.only ho9 (by simp))) (by omega)).mono ?_
      rintro e w10 ⟨rfl, hs10, ho10⟩
      have hr10 := hr9.only ho10 (by simp) (by simp)
      have hz : w8.heap.size + 1 < w9.heap.size := hr9.1.lt
      go_wp2_with fail
      refine (take_any _ _ _ _ _ _ x hr10).mono ?_
      rintro e w11 ⟨rfl, hr11, ho11⟩
      have hs11 := hs10.only ho11 (by simp; omega) (by simp; omega)
      have ho011 : Only [] w w11 := ((((ho04.then ho46).then ho68).then ho9).then ho10).first ho11 (by simp; have := ((ho04.then ho46).then ho68).size; omega)
      go_wp2_with fail
      refine (awake_any _).mono ?_
      rintro e w12 ⟨rfl, ho12⟩
      have hs12 := hs11.only ho12 (by simp) (by simp)
      go_wp2_with fail
      refine (at_any _ _ _ _ _ _ hs12).mono ?_
      rintro e w13 ⟨rfl, rfl⟩
      go_wp2_with fail
      refine (left_any _ _ _ _ _ _ hs12).mono ?_
      rintro e w14 ⟨rfl, rfl⟩
      go_wp2_with fail
      go_ret
      refine ⟨?_, (ho011.then ho12).drew⟩
      simp
    · have hd1 : decide ((100 : Int) < (b.length : Int)) = true := by simp; omega
      clear hn'
      go_enter Try.func8, Try.ntmps8
      go_wp2
      go_ret
      exact ⟨rfl, Only.refl _ _⟩
  · have hd0 : decide ((100 : Int) < (a.length : Int)) = true := by simp; omega
    clear hn
    go_enter Try.func8, Try.ntmps8
    go_wp2
    go_ret
    exact ⟨rfl, Only.refl _ _⟩
end Go.Proofs.Ytcpmaccahfdceaa.bitioApart
