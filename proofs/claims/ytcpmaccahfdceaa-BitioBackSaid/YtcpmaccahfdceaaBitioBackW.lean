/- Proved: BitioBack returns true for every list of calls; its argument reads afterwards as before. No condition. -/
import Derived.Test.YtcpmaccahfdceaaOps
import Derived.Test.YtcpmaccahfdceaaPay
namespace Go.Proofs.Ytcpmaccahfdceaa.bitioBack
open Go.ChangeShapes Go.WideShapes Go.ChangeAt Go.RowKit bt

set_option maxHeartbeats 1000000 in
theorem walk (w : World) (A : Option Addr) (c : Nat) (ops : List (Nat × Int)) (hr : Reads w A 2 ops.length (opsV ops)) (hm : ops.length ≤ maxLen) (hv : ∀ o ∈ ops, o.1 < 4294967296) (hi : ∀ o ∈ ops, -9223372036854775808 ≤ o.2 ∧ o.2 ≤ 9223372036854775807) :
    Calls Try.prog 7 #[.slice A ops.length c] w fun e w' => e = .returned (.bool true) ∧ Only [] w w' := by
  unfold maxLen at hm
  by_cases hn : ops.length ≤ 200
  · have Hr := Lib.hid hr
    have Hv := Lib.hid hv
    have Hi := Lib.hid hi
    have hd0 : decide ((200 : Int) < (ops.length : Int)) = false := by simp; omega
    clear hr hv hi
    go_enter Try.func7, Try.ntmps7
    go_wp2_with fail
    refine (newWriter_any _).mono ?_
    rintro e w1 ⟨rfl, hw1, ho1⟩
    go_wp2_with fail
    refine (written_any _ _ _ _ _ ops hw1 (Hr.out.then ho1) (Hr.out.off_new (by omega) (by simp)) hn Hv.out).mono ?_
    rintro e w2 ⟨A2, c2, F2, rfl, hw2, hown2, ho2, hf2, hf20, hd2⟩
    go_wp2_with fail
    refine (payload_any _ _ _ _ hw2 (by have := putAll_le ops; omega)).mono ?_
    rintro e w3 ⟨rfl, hb3, ho3⟩
    have hb := payload_last_ne (putAll ops)
    have hlen := putAll_le ops
    have hb3r : Reads w3 (some ⟨w2.heap.size, 0, none⟩) 1 ((putAll ops).length / 8 + 1) (bytesV (payload (putAll ops))) := by
      refine ⟨by simp [bytesV, payload_length], fun _ => ⟨_, rfl, fun j u hu => ?_⟩⟩
      rw [add_plain, Nat.zero_add, hb3.cell j]; simpa using hu
    go_wp2_with fail
    refine (newReader_some _ _ _ _ (payload (putAll ops)) hb3r (by omega) (payload_lt _) hb).mono ?_
    rintro e w4 ⟨rfl, hr4, ho4⟩
    rw [nBits_payload] at hr4
    go_wp2_with fail
    refine (left_any _ _ _ _ _ _ hr4).mono ?_
    rintro e w5 ⟨rfl, rfl⟩
    have hw4 := ((hw2.then ho3).then ho4).then ((Only.refl _ _).drew)
    go_wp2_with fail
    refine (len_any _ _ _ _ hw4).mono ?_
    rintro e w6 ⟨rfl, rfl⟩
    go_wp2_with fail
    have hoA : Only [] w w4.drew := (((ho1.first ho2 (by simp)).then ho3).then ho4).drew
    have hrA : ReaderIs w4.drew (w3.heap.size + 1) w3.heap.size (payload (putAll ops)) (putAll ops).length 0 := hr4.only (Only.refl [] _).drew (by simp) (by simp)
    generalize w4.drew = wA at hoA hrA ⊢
    have hgw : w.heap.size ≤ w3.heap.size := by have h1 := ho1.size; have h2 := ho2.size; have h3 := ho3.size; omega
    clear hw1 ho1 hw2 hown2 ho2 hf2 hf20 hd2 hb3 ho3 hb3r hr4 ho4 hw4 hd0 hb
    go_loopw [8] (fun i wr => ∃ k : Nat, k ≤ ops.length ∧ i = .int .i64 k ∧ ReaderIs wr (w3.heap.size + 1) w3.heap.size (payload (putAll ops)) (putAll ops).length (putAll (ops.take k)).length ∧ Only [] w wr) (fun i _ => ops.length - (intOf i).toNat)
    case atStart => exact ⟨0, Nat.zero_le _, rfl, hrA, hoA⟩
    case round =>
      obtain ⟨k, hk, rfl, hrd, ho⟩ := hrel
      by_cases hlt : k < ops.length
      · obtain ⟨⟨v, nn⟩, ho'⟩ : ∃ o, ops[k]? = some o := ⟨_, List.getElem?_eq_getElem hlt⟩
        obtain ⟨hx0, hx1⟩ := opsV_get ops k (v, nn) ho'
        obtain ⟨b, off, rfl, hc⟩ := (Hr.out.then ho).plain (by omega) (by omega)
        have hc0 := hc _ _ hx0
        have hc1 := hc _ _ hx1
        rw [← Nat.add_assoc] at hc1
        have hvo := Hv.out (v, nn) (List.mem_of_getElem? ho')
        have hbw : b < w.heap.size := Hr.out.lt (by omega) (by omega) _ rfl
        have hkl : (k : Int) < (ops.length : Int) := by omega
        have Ho' := Lib.hid ho'
        clear hc hx0 hx1 ho'
        by_cases hpe : putErr (v : Int) nn = 0
        · have hpb : (putErr (v : Int) nn != 0) = false := by simpa using hpe
          obtain ⟨hn0, hn1, hvn⟩ := putErr_zero hpe
          obtain ⟨n', rfl⟩ : ∃ n' : Nat, nn = n' := ⟨nn.toNat, by omega⟩
          obtain ⟨hw, hl⟩ := putAll_window ops k v n' Ho'.out hpe
          have hle := putAll_take_le ops (k + 1)
          have Hpe := Lib.hid hpe
          have Hw := Lib.hid hw
          have Hl := Lib.hid hl
          clear hpe hw hl
          go_wp2_with fail
          go_quiet ((go_at_call 31; exact (Calls.quiet_of_same ((refMay_any _ _ _ (by omega) (by omega)).mono fun _ _ ⟨a, b⟩ => ⟨a, b.symm⟩))))
          go_wp2_with fail
          have hrd2 : ReaderIs (wr.drewN nq) (w3.heap.size + 1) w3.heap.size (payload (putAll ops)) (putAll ops).length (putAll (ops.take k)).length := hrd.only ((Only.refl [] _).drewN nq) (by simp) (by simp)
          refine (take_ok _ _ _ _ _ _ n' hrd2 (by omega) (by have := Hl.out; omega)).mono ?_
          rintro e w5 ⟨rfl, hr5, ho5⟩
          rw [bitsIn_payload, Hw.out, num_bitsOf_lt v n' (by simpa using hvn)]
          have hoB : Only [] w w5 := (ho.drewN nq).first ho5 (by simp; omega)
          have hd0 : w5.cell? ⟨b, off + k * 2, none⟩ = some (.int .u32 (v : Int)) := (ho5.cell (p := ⟨b, off + k * 2, none⟩) (World.block_lt_of_cell? _ _ hc0) (by simp; omega)).trans hc0
          go_wp2_with fail
          go_roundw
          case rel => exact ⟨k + 1, by omega, by go_num, by rw [Hl.out]; exact hr5, hoB⟩
          case measure => simp [intOf]; omega
        · have hpb : (putErr (v : Int) nn != 0) = true := by simpa using hpe
          have hsk := putAll_skip ops k v nn Ho'.out hpe
          have Hsk := Lib.hid hsk
          clear hpe hsk
          go_wp2_with fail
          go_quiet ((go_at_call 31; exact (Calls.quiet_of_same ((refMay_any _ _ _ (by omega) (by omega)).mono fun _ _ ⟨a, b⟩ => ⟨a, b.symm⟩))))
          go_wp2_with fail
          go_roundw
          case rel => exact ⟨k + 1, by omega, by go_num, by rw [Hsk.out]; exact hrd.only ((Only.refl [] _).drewN nq) (by simp) (by simp), ho.drewN nq⟩
          case measure => simp [intOf]; omega
      · go_wp2_with fail
        have hkn : ops.take k = ops := List.take_of_length_le (by omega)
        rw [hkn] at hrd
        refine (take_short _ _ _ _ _ _ 1 hrd (by omega) (by omega)).mono ?_
        rintro e w5 ⟨rfl, rfl⟩
        go_wp2_with fail
        refine (awake_any _).mono ?_
        rintro e w6 ⟨rfl, ho6⟩
        have hr6 := (hrd.only ((Only.refl [] _).drew) (by simp) (by simp)).only ho6 (by simp) (by simp)
        go_wp2_with fail
        refine (left_any _ _ _ _ _ _ hr6).mono ?_
        rintro e w7 ⟨rfl, rfl⟩
        go_wp2_with fail
        go_ret
        refine ⟨?_, ((ho.drew).then ho6).drew⟩
        simp
  · have hd : decide ((200 : Int) < (ops.length : Int)) = true := by simp; omega
    clear hn
    go_enter Try.func7, Try.ntmps7
    go_wp2
    go_ret
    exact ⟨rfl, Only.refl _ _⟩
end Go.Proofs.Ytcpmaccahfdceaa.bitioBack
