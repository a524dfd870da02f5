/- The sanity check 'awake' of chapter 9's laws returns true. -/
import Derived.Test.YtkojnmphgdlmdaaB3
namespace Go.Proofs.Ytkojnmphgdlmdaa
open Go.RowKit bt

theorem built64 : Try.prog.built 23 [] = some (arr .i64 64 fun _ => 0) := by kernel_rfl
theorem bld64 {ops : Array Oper} {rest : List Oper} {o : Oper} {a : Act} {w : World} {Q : Exit → Act → World → Prop} (hw : Region.wanted o (yielded ops a.tmps) = true) (ho : o.op = .build 23 #[])
    (k : wpList Try.prog ops Q rest (a.put o.dst (.agg (arr .i64 64 fun _ => 0))) w) : wpList Try.prog ops Q (o :: rest) a w :=
  wpList_step fun K hK => by
    rw [if_pos hw]
    refine wp_build _ #[] ho ?_ ?_
    · simp only [List.map_toArray, List.map_nil, built64]; rfl
    · simp only [List.map_toArray, List.map_nil, built64]; exact hK _ _ k
theorem bOut_0 (x : Nat → Int) (hx : ∀ j, x j = 0) (f : Int) (hf : f = 0 ∨ f = 1) : pErr x f = 0 ∧ bOut x f = uCode 0 := by
  have h1 : ∀ k p a, bc x k p a = [] := by
    intro k
    induction k with
    | zero => intro p a; rfl
    | succ k ih => intro p a; simp only [bc]; rw [if_pos (hx p)]; exact ih _ _
  have h2 := pErr_ok (x := x) hf (rgB_true.2 fun p _ _ => by rw [hx]; omega)
  refine ⟨h2.1, ?_⟩
  rw [h2.2, h1]; rfl
theorem uCode_0 : uCode 0 = [true] := by decide
theorem awake_of (w : World) (x : Nat → Int) (hx : ∀ j, x j = 0) (he : (fun _ => 0 : Nat → Int) = x) : Calls Try.prog 12 #[] w fun e w' => e = .returned (.bool true) ∧ Only [] w w' := by
  have h0 := bOut_0 x hx 0 (by omega)
  have h1 := bOut_0 x hx 1 (by omega)
  rw [uCode_0] at h0 h1
  have H0 := Lib.hid h0
  have H1 := Lib.hid h1
  have HE := Lib.hid he
  clear h0 h1 hx he
  go_enter Try.func12, Try.ntmps12
  go_wp2_with fail
  refine (newWriter_any _).mono ?_
  rintro e w1 ⟨rfl, hw1, o1⟩
  have HW1 := Lib.hid hw1
  generalize hg : w.heap.size = g
  rw [hg] at HW1
  have Hg := Lib.hid hg
  clear hw1 hg
  have tok : True := trivial
  go_wp2_with (clear tok; refine bld64 rfl rfl ?_; rw [HE.out])
  refine (bput_any _ g [g] [] x 0 HW1.out (by simp)).mono ?_
  rintro e w2 ⟨rfl, F2, hw2, o2, f2⟩
  rw [H0.out.1]
  rw [H0.out.2] at hw2
  have ho2 : Only [] w w2 := o1.first o2 (by simp [Hg.out])
  have HW2 := Lib.hid hw2
  clear hw2 o2
  go_wp2_with fail
  refine (len_any _ g F2 _ HW2.out).mono ?_
  rintro e w3 ⟨rfl, rfl⟩
  have tok : True := trivial
  go_wp2_with (clear tok; refine bld64 rfl rfl ?_; rw [HE.out])
  refine (bbits_any _ x 1).mono ?_
  rintro e w4 ⟨rfl, o4⟩
  rw [H1.out.2]
  go_wp2_with fail
  go_ret
  exact ⟨rfl, ho2.then o4⟩
theorem awake_any (w : World) : Calls Try.prog 12 #[] w fun e w' => e = .returned (.bool true) ∧ Only [] w w' := awake_of w _ (fun _ => rfl) rfl
end Go.Proofs.Ytkojnmphgdlmdaa
