/- Proved: VlcShorter returns true for all numbers. Nothing in memory that was there changes. No condition. -/
import Derived.Test.YtcpmaccahfdceaaVr
import Derived.Test.YtcpmaccahfdceaaRow
namespace Go.Proofs.Ytcpmaccahfdceaa.vlcShorter
open Go.ChangeShapes Go.WideShapes Go.ChangeAt Go.RowKit bt

theorem walk (w : World) (a : Int) (ha : -9223372036854775808 ≤ a ∧ a ≤ 9223372036854775807) (b : Int) (hb : -9223372036854775808 ≤ b ∧ b ≤ 9223372036854775807) :
    Calls Try.prog 9 #[.int .i64 a, .int .i64 b] w fun e w' => e = .returned (.bool true) ∧ Only [] w w' := by
  by_cases h1 : b < a
  · have hd1 : decide (b < a) = true := by simpa using h1
    go_enter Try.func9, Try.ntmps9
    go_wp2_with fail
    refine (awakeV_any _).mono ?_
    rintro e w1 ⟨rfl, ho1⟩
    go_wp2_with fail
    go_ret
    exact ⟨rfl, ho1⟩
  · have hd1 : decide (b < a) = false := by simp; omega
    by_cases h2 : uPutErr a = 0
    · have hd2 : (uPutErr a == 0) = true := by simpa using h2
      by_cases h3 : uPutErr b = 0
      · have hd3 : (uPutErr b == 0) = true := by simpa using h3
        obtain ⟨ha0, ha1⟩ := uPut_zero h2
        obtain ⟨hb0, hb1⟩ := uPut_zero h3
        have ea : uBits a = 2 * (hlf a.toNat : Int) + 1 := by unfold uBits; rw [if_pos h2]
        have eb : uBits b = 2 * (hlf b.toNat : Int) + 1 := by unfold uBits; rw [if_pos h3]
        have hm := hlf_mono (a := a.toNat) (b := b.toNat) (by omega)
        have hd4 : decide (1 ≤ uBits a) = true := by rw [ea]; simp; omega
        have hd5 : decide (uBits a ≤ uBits b) = true := by rw [ea, eb]; simp; omega
        clear ea eb hm h2 h3
        go_enter Try.func9, Try.ntmps9
        go_wp2_with fail
        refine (refMayU_any _ _).mono ?_
        rintro e w1 ⟨rfl, rfl⟩
        go_wp2_with fail
        refine (refMayU_any _ _).mono ?_
        rintro e w1 ⟨rfl, rfl⟩
        go_wp2_with fail
        refine (awakeV_any _).mono ?_
        rintro e w1 ⟨rfl, ho1⟩
        go_wp2_with fail
        refine (vlcBits_any _ _ ha).mono ?_
        rintro e w2 ⟨rfl, rfl⟩
        go_wp2_with fail
        refine (vlcBits_any _ _ ha).mono ?_
        rintro e w2 ⟨rfl, rfl⟩
        go_wp2_with fail
        refine (vlcBits_any _ _ hb).mono ?_
        rintro e w2 ⟨rfl, rfl⟩
        go_wp2_with fail
        go_ret
        exact ⟨rfl, ho1⟩
      · have hd3 : (uPutErr b == 0) = false := by simpa using h3
        clear h2 h3
        go_enter Try.func9, Try.ntmps9
        go_wp2_with fail
        refine (refMayU_any _ _).mono ?_
        rintro e w1 ⟨rfl, rfl⟩
        go_wp2_with fail
        refine (refMayU_any _ _).mono ?_
        rintro e w1 ⟨rfl, rfl⟩
        go_wp2_with fail
        refine (awakeV_any _).mono ?_
        rintro e w1 ⟨rfl, ho1⟩
        go_wp2_with fail
        go_ret
        exact ⟨rfl, ho1⟩
    · have hd2 : (uPutErr a == 0) = false := by simpa using h2
      clear h2
      go_enter Try.func9, Try.ntmps9
      go_wp2_with fail
      refine (refMayU_any _ _).mono ?_
      rintro e w1 ⟨rfl, rfl⟩
      go_wp2_with fail
      refine (awakeV_any _).mono ?_
      rintro e w1 ⟨rfl, ho1⟩
      go_wp2_with fail
      go_ret
      exact ⟨rfl, ho1⟩
end Go.Proofs.Ytcpmaccahfdceaa.vlcShorter
