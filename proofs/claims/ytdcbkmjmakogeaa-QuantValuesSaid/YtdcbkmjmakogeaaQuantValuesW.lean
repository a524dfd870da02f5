/- QuantValues: the walk. -/
import Derived.Test.YtdcbkmjmakogeaaQs
namespace Go.Proofs.Ytdcbkmjmakogeaa.quantValues
open Go.RowKit

set_option maxHeartbeats 2000000 in
set_option maxRecDepth 100000 in
theorem walk (w : World) (A : Option Addr) (c : Nat) (l : List Int) (hr : Reads w A 1 l.length (l.map (Value.int .i64))) (hm : l.length ≤ maxLen) (hb : ∀ z ∈ l, -9223372036854775808 ≤ z ∧ z ≤ 9223372036854775807)
    (A2 : Option Addr) (c2 : Nat) (p : List Nat) (hr2 : Reads w A2 1 p.length (p.map fun (b : Nat) => Value.int .u8 (b : Int))) (hm2 : p.length ≤ maxLen) (hp : ∀ x ∈ p, x < 256)
    (q : Int) (_hq : -9223372036854775808 ≤ q ∧ q ≤ 9223372036854775807) :
    Calls Try.prog 6 #[.slice A l.length c, .slice A2 p.length c2, .int .i64 q] w fun e w' => e = .returned (.bool true) ∧ Only [] w w' := by
  have hI := blockOf_I64 hb
  have hU := matOf_U8 hp
  generalize hx : blockOf l = x at hI
  generalize hmm : matOf p = m at hU
  have HX := Lib.hid hx
  have HM := Lib.hid hmm
  clear hx hmm hb hp
  go_enter Try.func6, Try.ntmps6
  go_wp2_with fail
  refine (block_any _ A c l hr hm).mono ?_
  rintro e w1 ⟨rfl, o1⟩
  rw [HX.out]
  go_wp2_with fail
  refine (qmatrix_any _ A2 c2 p (hr2.then o1) hm2).mono ?_
  rintro e w2 ⟨rfl, o2⟩
  rw [HM.out]
  go_wp2_with fail
  refine (deq_any _ x m q hI hU).mono ?_
  rintro e w3 ⟨rfl, o3⟩
  have ho3 := (o1.then o2).then o3
  go_wp2_with (first | (refine al64 rfl rfl ?_; rintro g3 w4 b4 o4 l4) | (refine sr64 b4 rfl rfl rfl rfl ?_; rintro w5 b5 o5 e5))
  have ho5 := (ho3.then o4).own o5 (by have := ho3.size; omega)
  clear o1 o2 o3 o4 o5 b4 ho3
  refine (block_any _ A c l (hr.then ho5) hm).mono ?_
  rintro e w6 ⟨rfl, o6⟩
  rw [HX.out]
  go_wp2_with fail
  refine (qmatrix_any _ A2 c2 p ((hr2.then ho5).then o6) hm2).mono ?_
  rintro e w7 ⟨rfl, o7⟩
  rw [HM.out]
  go_wp2_with fail
  refine (refDeq_any _ x m q hI hU).mono ?_
  rintro e w8 ⟨rfl, o8⟩
  have ho8 := ((ho5.then o6).then o7).then o8
  have b8 := ((b5.only o6 (by simp)).only o7 (by simp)).only o8 (by simp)
  clear o6 o7 o8 b5 ho5
  go_wp2_with (first | (refine al64 rfl rfl ?_; rintro g9 w9 b9 o9 l9) | (refine sr64 b9 rfl rfl rfl rfl ?_; rintro wz bz oz ez))
  have hlt := b8.lt
  have h8 := (b8.only o9 (by simp)).only oz (by simp; omega)
  have ho9 := (ho8.then o9).own oz (by have := ho8.size; omega)
  clear o9 oz b9 b8 ho8
  refine (awake_any _).mono ?_
  rintro e wa ⟨rfl, oa⟩
  have ha := h8.only oa (by simp)
  have bza := bz.only oa (by simp)
  have heq := eql64_self (dz x m q)
  have tok : True := trivial
  go_wp2_with (first | (clear tok; refine gld64 (x := dz x m q) (g := g3) ha rfl rfl rfl ?_) | refine gld64 (x := dz x m q) (g := g9) bza rfl rfl rfl ?_)
  go_ret
  exact ⟨rfl, ho9.then oa⟩
end Go.Proofs.Ytdcbkmjmakogeaa.quantValues
