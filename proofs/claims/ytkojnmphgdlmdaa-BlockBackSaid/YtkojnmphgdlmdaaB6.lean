/- The deferred closure of Take. -/
import Derived.Test.YtkojnmphgdlmdaaB5
namespace Go.Proofs.Ytkojnmphgdlmdaa
open Go.RowKit bt

theorem same_mode {c : Frame} {u : FrameMode} (h : c.mode = u) : c = { c with mode := u } := by subst h; rfl
theorem neq_nil (w : World) : (binOp .neq 20 .nilIface .nilIface).run Try.prog w = .ok (.bool false) w := by kernel_rfl
set_option maxHeartbeats 1000000 in
theorem catch_idle (p q : Addr) (w : World) :
    CallsD Try.prog 35 #[.pointer (some p), .pointer (some q)] .returning w fun e u' w' => e = .returned (.tuple #[]) ∧ u' = .returning ∧ w' = w := by
  refine callsD_of_wpS Try.func35 rfl fun c₀ cs hu => ?_
  apply wpS_seq
  apply wpS_region
  simp [wpOpsS, go_sem, recoverD, hu, Try.ntmps35, Exit.thenS]
  refine wpS_of_wp ?_
  rw [show #[Value.pointer (some p), Value.pointer (some q)] ++ ((Array.replicate 15 undef).setIfInBounds 3 Value.nilIface).setIfInBounds 0 Value.nilIface = #[Value.pointer (some p), Value.pointer (some q), Value.nilIface, undef, undef, Value.nilIface, undef, undef, undef, undef, undef, undef, undef, undef, undef, undef, undef] from rfl]
  have hn := neq_nil
  have Hu := Lib.hid hu
  clear hu
  go_wp2_with fail
  exact ⟨rfl, .returning, congrArg (· :: cs) (same_mode Hu.out), .tuple #[], by simp [results, Try.results35], rfl, rfl, rfl⟩
theorem neq_flr (e : Int) (w : World) : (binOp .neq 20 (flr e) .nilIface).run Try.prog w = .ok (.bool true) w := by rfl
theorem guard_flr (e : Int) (w : World) : (eqGuard .neq 20 (.tmp 6) (.const .nilIface) (flr e) .nilIface).run Try.prog w = .ok () w := by rfl
theorem assert_flr (e : Int) (w : World) : (Instr.typeAssert (flr e) 20 69 true).run Try.prog w = .ok (.tuple #[.agg #[.int .i64 e], .bool true]) w := by rfl
set_option maxHeartbeats 1000000 in
theorem catch_p (g4 g5 : Nat) (x : Nat → Int) (e e0 : Int) (w : World) (h4 : Blk w g4 23 (arr .i64 64 x)) (h5 : Blk w g5 27 #[.int .i64 e0]) (hne : g4 ≠ g5) :
    CallsD Try.prog 35 #[.pointer (some ⟨g4, 0, none⟩), .pointer (some ⟨g5, 0, none⟩)] (.panicking [{ v := flr e, recovered := false }]) w fun r u' w' =>
      r = .returned (.tuple #[]) ∧ u' = .panicking [{ v := flr e, recovered := true }] ∧ Blk w' g4 23 (arr .i64 64 fun _ => 0) ∧ Blk w' g5 27 #[.int .i64 e] ∧ Only [g4, g5] w w' := by
  refine callsD_of_wpS Try.func35 rfl fun c₀ cs hu => ?_
  apply wpS_seq
  apply wpS_region
  simp [wpOpsS, go_sem, recoverD, hu, Try.ntmps35, Exit.thenS]
  refine wpS_of_wp ?_
  rw [show #[Value.pointer (some (⟨g4, 0, none⟩ : Addr)), Value.pointer (some (⟨g5, 0, none⟩ : Addr))] ++ ((Array.replicate 15 undef).setIfInBounds 3 (flr e)).setIfInBounds 0 (flr e) = #[Value.pointer (some ⟨g4, 0, none⟩), Value.pointer (some ⟨g5, 0, none⟩), flr e, undef, undef, flr e, undef, undef, undef, undef, undef, undef, undef, undef, undef, undef, undef] from rfl]
  have hn := neq_flr e
  have ha := assert_flr e
  have hg := guard_flr e
  generalize hF : flr e = fv at hn ha hg ⊢
  clear hF
  have Hu := Lib.hid hu
  clear hu
  have tok : True := trivial
  have tok2 : True := trivial
  go_wp2_with (first | (clear tok; refine bld64 rfl rfl ?_) | (clear tok2; refine sr64 (y := fun _ => 0) h4 rfl rfl rfl rfl ?_; rintro w1 b1 o1 l1; have h51 := h5.only o1 (by simp [Ne.symm hne]); obtain ⟨s1, s2⟩ := h51.set1 0 (.int .i64 3); have c5 : w1.cell? ⟨g5, 0, none⟩ = some (.int .i64 e0) := h51.cell 0; have z5 := h51.frozen 0; have s3 := s1.alloc (.cells #[.int .i64 e] 69); have c6 : ((w1.setCell ⟨g5, 0, none⟩ (.int .i64 3)).alloc (.cells #[.int .i64 e] 69)).cell? ⟨g5, 0, none⟩ = some (.int .i64 3) := s3.cell 0; have z6 := s3.frozen 0; have S1 := Lib.hid s1; have S2 := Lib.hid s2; have S3 := Lib.hid s3; clear s1 s2 s3))
  refine ⟨rfl, .panicking [{ v := fv, recovered := true }], rfl, .tuple #[], by simp [results, Try.results35], rfl, rfl, ?_, ?_, ?_⟩
  · exact ((b1.far (p := ⟨g5, 0, none⟩) hne _).alloc _).far (p := ⟨g5, 0, none⟩) hne _
  · exact S3.out.set_ 0 _
  · exact (((o1.mono (by simp)).setCell (p := ⟨g5, 0, none⟩) (.inl (by simp)) _).alloc _).setCell (p := ⟨g5, 0, none⟩) (.inl (by simp)) _
end Go.Proofs.Ytkojnmphgdlmdaa
