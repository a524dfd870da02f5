/- Proved: VlcPrefix returns true for all its arguments, which read afterwards as before. No condition. -/
import Derived.Test.YtcpmaccahfdceaaVr
import Derived.Test.YtcpmaccahfdceaaVu
import Derived.Test.YtcpmaccahfdceaaRow
namespace Go.Proofs.Ytcpmaccahfdceaa.vlcPrefix
open Go.ChangeShapes Go.WideShapes Go.ChangeAt Go.RowKit bt

/-- The bits of some bytes, eight each. -/
def eights (p : List Nat) : List Bool := p.flatMap fun x => bitsOf x 8
theorem eights_snoc (p : List Nat) (x : Nat) : eights (p ++ [x]) = eights p ++ bitsOf x 8 := by simp [eights]
theorem eights_length (p : List Nat) : (eights p).length = 8 * p.length := by
  induction p with
  | nil => rfl
  | cons x p ih => simp only [eights, List.flatMap_cons, List.length_append, bitsOf_length, List.length_cons] at *; omega

set_option maxHeartbeats 2000000 in
theorem walk (w : World) (v : Int) (hv : -9223372036854775808 ≤ v ∧ v ≤ 9223372036854775807) (A : Option Addr) (c : Nat) (p : List Nat) (hr : Reads w A 1 p.length (bytesV p)) (hm : p.length ≤ maxLen) (hp : ∀ x ∈ p, x < 256) :
    Calls Try.prog 12 #[.int .i64 v, .slice A p.length c] w fun e w' => e = .returned (.bool true) ∧ Only [] w w' := by
  unfold maxLen at hm
  have Hr := Lib.hid hr
  have Hp := Lib.hid hp
  clear hr hp
  by_cases h2 : uPutErr v = 0
  · have hd2 : (uPutErr v == 0) = true := by simpa using h2
    have hd2' : (uPutErr v != 0) = false := by simpa using h2
    by_cases hn : p.length ≤ 100
    · have hd3 : decide ((100 : Int) < (p.length : Int)) = false := by simp; omega
      obtain ⟨h0, h1⟩ := uPut_zero h2
      obtain ⟨v', rfl⟩ : ∃ v' : Nat, v = v' := ⟨v.toNat, by omega⟩
      have ec : uCode (v' : Int) = code v' := by unfold uCode; rw [if_pos h2]; rfl
      have hcl := uCode_le (v' : Int)
      rw [ec] at hcl
      have Hec := Lib.hid ec
      clear ec h2
      go_enter Try.func12, Try.ntmps12
      go_wp2_with fail
      refine (refMayU_any _ _).mono ?_
      rintro e w1 ⟨rfl, rfl⟩
      go_wp2_with fail
      refine (newWriter_any _).mono ?_
      rintro e w1 ⟨rfl, hw1, ho1⟩
      go_wp2_with fail
      refine (putU_any _ _ _ _ _ hw1 (by omega) (by simp)).mono ?_
      rintro e w2 ⟨rfl, F2, hw2, ho2, hf2⟩
      rw [List.nil_append, Hec.out] at hw2
      have ho02 : Only [] w w2 := ho1.first ho2 (by simp)
      have hF2 : ∀ x ∈ F2, w.heap.size ≤ x := by intro x hx; rcases hf2 x hx with h | h; simp at h; omega; have := ho1.size; omega
      have HF2 := Lib.hid hF2
      clear hF2 hw1 ho1 ho2 hf2
      go_wp2_with fail
      clear hd2 hd2' hd3
      go_loopw [6] (fun i wr => ∃ k : Nat, k ≤ p.length ∧ i = .int .i64 k ∧ ∃ F, WriterIs wr w.heap.size F (code v' ++ eights (p.take k)) ∧ Hid (∀ x ∈ F, w.heap.size ≤ x) ∧ Only [] w wr) (fun i _ => p.length - (intOf i).toNat)
      case atStart => exact ⟨0, Nat.zero_le _, rfl, F2, by simpa [eights] using hw2, HF2, ho02⟩
      case round =>
        obtain ⟨k, hk, rfl, F, hw, HF, ho⟩ := hrel
        have hel := eights_length (p.take k)
        have hel2 : (p.take k).length ≤ 100 := by simp; omega
        by_cases hlt : k < p.length
        · obtain ⟨x, hx⟩ : ∃ x, p[k]? = some x := ⟨_, List.getElem?_eq_getElem hlt⟩
          have hx256 := Hp.out x (List.mem_of_getElem? hx)
          obtain ⟨b, off, rfl, hc⟩ := (Hr.out.then ho).plain (by omega) (by omega)
          have hcx := hc k (.int .u8 (x : Int)) (by simp [bytesV, hx])
          have hki : (k : Int) < (p.length : Int) := by omega
          have Hx := Lib.hid hx
          have Hel := Lib.hid hel
          clear hc hx hel
          go_wp2_with fail
          first | rw [show (x : Int) % 4294967296 = (x : Int) from by omega] | skip
          refine (put_ok _ _ _ _ x 8 hw (by omega) (by omega) (by rw [List.length_append]; have := Hel.out; omega)).mono ?_
          rintro e w3 ⟨rfl, F3, hw3, ho3, hf3⟩
          go_wp2_with fail
          go_roundw
          case rel =>
            refine ⟨k + 1, by omega, by go_num, F3, ?_, ?_, ho.first ho3 HF.out⟩
            · have : p.take (k + 1) = p.take k ++ [x] := by rw [List.take_add_one, Hx.out]; rfl
              rw [this, eights_snoc, ← List.append_assoc]; exact hw3
            · show ∀ _, _
              intro y hy
              rcases hf3 y hy with h | h
              · exact HF.out y h
              · have := ho.size; omega
          case measure => simp [intOf]; omega
        · have hkp : p.take k = p := List.take_of_length_le (by omega)
          rw [hkp] at hw hel
          have Hel := Lib.hid hel
          clear hkp hel hel2
          obtain ⟨B, hB⟩ : ∃ B, B = code v' ++ eights p := ⟨_, rfl⟩
          rw [← hB] at hw
          have hbl : B.length = (code v').length + 8 * p.length := by rw [hB, List.length_append, Hel.out]
          have Hbl := Lib.hid hbl
          have HB := Lib.hid hB
          have hble : B.length ≤ 1000 := by omega
          clear hbl hB
          go_wp2_with fail
          refine (payload_any _ _ _ _ hw (by omega)).mono ?_
          rintro e w3 ⟨rfl, hp3, ho3⟩
          go_wp2_with fail
          refine (newReader_payload _ _ _ _ (payload_reads hp3) (by omega)).mono ?_
          rintro e w4 ⟨rfl, hr4, ho4⟩
          go_wp2_with fail
          refine (takeU_any _ _ _ _ _ _ hr4).mono ?_
          rintro e w5 ⟨rfl, hr5, ho5⟩
          have eE : uErr ((bitsIn (payload B) B.length).drop 0) = 0 := by rw [bitsIn_payload, List.drop_zero, HB.out]; exact uErr_code (by omega) _
          have eV : uVal ((bitsIn (payload B) B.length).drop 0) = v' := by rw [bitsIn_payload, List.drop_zero, HB.out]; exact uVal_code (by omega) _
          have eL : uLen ((bitsIn (payload B) B.length).drop 0) = (code v').length := by rw [bitsIn_payload, List.drop_zero, HB.out]; exact uLen_code (by omega) _
          rw [eE, eV]
          rw [eL, Nat.zero_add] at hr5
          clear eE eV eL
          have heq : (((B.length : Nat) : Int) - (((code v').length : Nat) : Int) == 8 * (p.length : Int)) = true := by rw [Hbl.out, beq_iff_eq]; omega
          go_wp2_with fail
          refine (awakeV_any _).mono ?_
          rintro e w6 ⟨rfl, ho6⟩
          have hr6 := hr5.only ho6 (by simp) (by simp)
          go_wp2_with fail
          refine (left_any _ _ _ _ _ _ hr6).mono ?_
          rintro e w7 ⟨rfl, rfl⟩
          go_wp2_with fail
          go_ret
          refine ⟨rfl, ?_⟩
          exact ((((ho.then ho3).then ho4).first ho5 (by simp; have := (ho.then ho3).size; omega)).then ho6).drew
    · have hd3 : decide ((100 : Int) < (p.length : Int)) = true := by simp; omega
      clear h2
      go_enter Try.func12, Try.ntmps12
      go_wp2_with fail
      refine (refMayU_any _ _).mono ?_
      rintro e w1 ⟨rfl, rfl⟩
      go_wp2_with fail
      refine (awakeV_any _).mono ?_
      rintro e w1 ⟨rfl, ho1⟩
      go_wp2_with fail
      go_ret
      exact ⟨rfl, ho1⟩
  · have hd2 : (uPutErr v == 0) = false := by simpa using h2
    clear h2
    go_enter Try.func12, Try.ntmps12
    go_wp2_with fail
    refine (refMayU_any _ _).mono ?_
    rintro e w1 ⟨rfl, rfl⟩
    go_wp2_with fail
    refine (awakeV_any _).mono ?_
    rintro e w1 ⟨rfl, ho1⟩
    go_wp2_with fail
    go_ret
    exact ⟨rfl, ho1⟩
end Go.Proofs.Ytcpmaccahfdceaa.vlcPrefix
