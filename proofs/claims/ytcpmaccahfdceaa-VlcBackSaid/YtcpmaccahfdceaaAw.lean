/- The sanity check 'awake' of chapter 2's laws returns true. -/
import Derived.Test.YtcpmaccahfdceaaRf
namespace Go.Proofs.Ytcpmaccahfdceaa
open Go.RowKit bt

theorem payload_awake : payload (bitsOf 5 3) = [176] := by decide

theorem awake_any (w : World) : Calls Try.prog 21 #[] w fun e w' => e = .returned (.bool true) ∧ Only [] w w' := by
  go_enter Try.func21, Try.ntmps21
  go_wp2_with fail
  refine (newWriter_any _).mono ?_
  rintro e w1 ⟨rfl, hw1, ho1⟩
  go_wp2_with fail
  refine (put_ok _ _ _ _ 5 3 hw1 (by omega) (by omega) (by simp)).mono ?_
  rintro e w2 ⟨rfl, F2, hw2, ho2, hf2⟩
  go_wp2_with fail
  refine (payload_any _ _ _ _ hw2 (by simp [bitsOf])).mono ?_
  rintro e w3 ⟨rfl, hb3, ho3⟩
  rw [List.nil_append, payload_awake] at hb3
  have hc := hb3.cell 0
  simp only [bytesV, List.map_cons, List.map_nil, List.getElem?_toArray, List.getElem?_cons_zero] at hc
  have hlen : (([] ++ bitsOf 5 3).length / 8 + 1) = 1 := by decide
  rw [hlen]
  clear hw1 hw2
  go_wp2
  go_ret
  exact ⟨rfl, ((ho1.trans ho2 (by intro k hk; simp at hk; right; omega)).then ho3)⟩
end Go.Proofs.Ytcpmaccahfdceaa
