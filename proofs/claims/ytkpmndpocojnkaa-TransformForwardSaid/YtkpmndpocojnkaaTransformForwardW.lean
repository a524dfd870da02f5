/- TransformForward: the walk. -/
import Derived.Test.YtkpmndpocojnkaaTb
namespace Go.Proofs.Ytkpmndpocojnkaa.transformForward
open Go.RowKit

theorem walk (w : World) (A : Option Addr) (c : Nat) (l : List Int) (hr : Reads w A 1 l.length (l.map (Value.int .i64))) (hm : l.length ≤ maxLen) (hb : ∀ z ∈ l, -9223372036854775808 ≤ z ∧ z ≤ 9223372036854775807) :
    Calls Try.prog 3 #[.slice A l.length c] w fun e w' => e = .returned (.bool true) ∧ Only [] w w' := by
  have hI := blockOf_I64 hb
  generalize hx : blockOf l = x at hI
  have HX := Lib.hid hx
  clear hx
  go_enter Try.func3, Try.ntmps3
  go_wp2_with fail
  refine (block_any _ A c l hr hm).mono ?_
  rintro e w1 ⟨rfl, o1⟩
  rw [HX.out]
  go_wp2_with fail
  refine (forward_both _ x hI).mono ?_
  rintro e w2 ⟨rfl, o2⟩
  have ho2 := o1.then o2
  go_wp2_with (first | (refine al64 rfl rfl ?_; rintro g3 w3 b3 o3 l3) | (refine sr64 b3 rfl rfl rfl rfl ?_; rintro w4 b4 o4 e4))
  have ho4 := (ho2.then o3).own o4 (by have := ho2.size; omega)
  clear o1 o2 o3 o4 b3 ho2
  refine (block_any _ A c l (hr.then ho4) hm).mono ?_
  rintro e w5 ⟨rfl, o5⟩
  rw [HX.out]
  go_wp2_with fail
  refine (refForward_both _ x hI).mono ?_
  rintro e w6 ⟨rfl, o6⟩
  have ho6 := (ho4.then o5).then o6
  have b6 := (b4.only o5 (by simp)).only o6 (by simp)
  clear o5 o6 b4 ho4
  go_wp2_with (first | (refine al64 rfl rfl ?_; rintro g7 w7 b7 o7 l7) | (refine sr64 b7 rfl rfl rfl rfl ?_; rintro w8 b8 o8 e8))
  have hlt := b6.lt
  have h8 := (b6.only o7 (by simp)).only o8 (by simp; omega)
  have ho8 := (ho6.then o7).own o8 (by have := ho6.size; omega)
  clear o7 o8 b7 b6 ho6
  refine (awake_any _).mono ?_
  rintro e w9 ⟨rfl, o9⟩
  have h9 := h8.only o9 (by simp)
  have b9 := b8.only o9 (by simp)
  have heq := eql64_self (fwd x)
  have tok : True := trivial
  go_wp2_with (first | (clear tok; refine gld64 (x := fwd x) (g := g3) h9 rfl rfl rfl ?_) | refine gld64 (x := fwd x) (g := g7) b9 rfl rfl rfl ?_)
  go_ret
  exact ⟨rfl, ho8.then o9⟩
end Go.Proofs.Ytkpmndpocojnkaa.transformForward
