/- The contract of Take. -/
import Derived.Test.YtkojnmphgdlmdaaB8
namespace Go.Proofs.Ytkojnmphgdlmdaa
open Go.RowKit bt

theorem zeroE : (Try.prog.info? 27).map (·.zero) = some (some (.int .i64 0)) := by kernel_rfl
theorem alE {ops : Array Oper} {rest : List Oper} {o : Oper} {a : Act} {w : World} {Q : Exit → Act → World → Prop} (hgd : o.guard = none) (ho : o.op = .alloc 27) (k : ∀ g w', Blk w' g 27 #[.int .i64 0] → Only [] w w' → w.heap.size ≤ g → wpList Try.prog ops Q rest (a.put o.dst (.pointer (some ⟨g, 0, none⟩))) w') : wpList Try.prog ops Q (o :: rest) a w :=
  wal _ _ hgd ho zeroE rfl k
theorem resTE {fn : Func} (h : fn.results = #[.cell 4 23, .cell 5 27]) {tmps : Array Value} {w : World} {g4 g5 : Nat} {x : Nat → Int} {e : Int} (hb : Blk w g4 23 (arr .i64 64 x)) (he : Blk w g5 27 #[.int .i64 e])
    (hp : tmps.getD 4 undef = .pointer (some ⟨g4, 0, none⟩)) (hq : tmps.getD 5 undef = .pointer (some ⟨g5, 0, none⟩)) : (results fn tmps).run Try.prog w = .ok (.tuple #[.agg (arr .i64 64 x), .int .i64 e]) w := by
  have hp' : tmps[4]?.getD undef = .pointer (some ⟨g4, 0, none⟩) := by simpa using hp
  have hq' : tmps[5]?.getD undef = .pointer (some ⟨g5, 0, none⟩) := by simpa using hq
  have hc : w.cell? ⟨g5, 0, none⟩ = some (.int .i64 e) := he.cell 0
  have h2 : (loadVar 27 ⟨g5, 0, none⟩).run Try.prog w = .ok (.int .i64 e) w := by
    simp [loadVar, hc, go_sem]
  simp [results, h, hp', hq', asAddr, run_loadVar_row w g4 23 23 _ (0, 0) _ hb Try.underlying23 rfl (info_of_arr _), h2]
/-- What Take comes to. -/
def TR (f : Int) (m : List Bool) : Int × (Nat → Int) × Nat := if f = 0 ∨ f = 1 then tk (65 - f.toNat) z64 f.toNat m else (1, z64, 0)
def TakeC (w : World) (g b : Nat) (p : List Nat) (n at0 : Nat) (R : Int × (Nat → Int) × Nat) (e : Ending) (w' : World) : Prop :=
  ((R.1 = 0 ∧ e = .returned (.tuple #[.agg (arr .i64 64 R.2.1), .int .i64 0]) ∧ ReaderIs w' g b p n (at0 + R.2.2)) ∨ (R.1 ≠ 0 ∧ e = .returned (.tuple #[.agg (arr .i64 64 z64), .int .i64 R.1]) ∧ ∃ at_, ReaderIs w' g b p n at_)) ∧ Only [g] w w'
set_option maxHeartbeats 4000000 in
set_option maxRecDepth 100000 in
theorem btake_any (w : World) (g b : Nat) (p : List Nat) (n at0 : Nat) (h : ReaderIs w g b p n at0) (f : Int) (R : Int × (Nat → Int) × Nat) (hR : TR f ((bitsIn p n).drop at0) = R) :
    Calls Try.prog 18 #[.pointer (some ⟨g, 0, none⟩), .int .i64 f] w (TakeC w g b p n at0 R) := by
  have hmf : ∀ (fn : Fn) (first cap : Array Value) (w : World), (Instr.makeFunc fn first cap).run Try.prog w = .ok (.func fn first cap) w := fun _ _ _ _ => rfl
  have HR := Lib.hid h
  have hgl : g < w.heap.size := h.1.lt
  have hbl : b < w.heap.size := h.2.1.lt
  have HRR := Lib.hid hR
  clear h hR
  go_enter_defers Try.func18, Try.ntmps18
  have tok : True := trivial
  have tok2 : True := trivial
  go_wp2_with (first | (clear tok; refine al64 rfl rfl ?_; rintro g4 w1 b1 o1 l1) | (clear tok2; refine alE rfl rfl ?_; rintro g5 w2 b2 o2 l2))
  rw [z64_arr] at b1
  have b4 := b1.only o2 (by simp)
  have ho2 := o1.then o2
  have h45 : g4 ≠ g5 := by have := b1.lt; omega
  have hg5 : w.heap.size ≤ g5 := by have := o1.size; omega
  have HR2 := Lib.hid (HR.out.only ho2 (by simp) (by simp))
  clear b1 o1 o2 HR
  refine (validStart_any _ _).mono ?_
  rintro e w3 ⟨rfl, rfl⟩
  by_cases hf : f = 0 ∨ f = 1
  · have hv : vst f = true := by unfold vst; exact decide_eq_true hf
    obtain ⟨f0, rfl⟩ : ∃ f0 : Nat, f = (f0 : Int) := ⟨f.toNat, by omega⟩
    have hf1 : f0 ≤ 1 := by omega
    have hR' : tk (65 - f0) z64 f0 ((bitsIn p n).drop at0) = R := by have := HRR.out; unfold TR at this; rw [if_pos hf, Int.toNat_natCast] at this; exact this
    have HR' := Lib.hid hR'
    clear hf hR' HRR
    go_wp2_with fail
    clear hv
    refine (read_any _ g b p n at0 HR2.out f0 hf1 R HR'.out).mono ?_
    rintro e w4 ⟨hcase, o4⟩
    have hg4g : g4 ≠ g := by omega
    have hg5g : g5 ≠ g := by omega
    have b44 := b4.only o4 (by simpa using hg4g)
    have b54 := b2.only o4 (by simpa using hg5g)
    have ho4 : Only [g] w w4 := (ho2.mono (by simp)).trans o4 (Fresh.refl _ _)
    clear o4 b4 b2 HR2
    rcases hcase with ⟨hR0, rfl, hRd⟩ | ⟨hR0, rfl, at_, hRd⟩
    · have HR0 := Lib.hid hR0
      have HRd := Lib.hid hRd
      clear hR0 hRd
      have tok3 : True := trivial
      go_wp2_with (clear tok3; refine sr64 (y := R.2.1) b44 rfl rfl rfl rfl ?_; rintro w5 b45 o5 l5; have b55 := b54.only o5 (by simp [Ne.symm h45]); have c5 : w5.cell? ⟨g5, 0, none⟩ = some (.int .i64 0) := b55.cell 0; have z5 := b55.frozen 0; obtain ⟨s1, s2⟩ := b55.set1 0 (.int .i64 0); have S1 := Lib.hid s1; have S2 := Lib.hid s2; clear s1 s2)
      refine leaves_cons (f := 35) (args := #[.pointer (some ⟨g4, 0, none⟩), .pointer (some ⟨g5, 0, none⟩)]) (by simp) (by simp [go_sem]) ?_
      refine (catch_idle ⟨g4, 0, none⟩ ⟨g5, 0, none⟩ _).mono ?_
      rintro e u' w'' ⟨rfl, rfl, rfl⟩
      refine ⟨_, resTE rfl (b45.far (p := ⟨g5, 0, none⟩) h45 _) S1.out rfl rfl, .inl ⟨HR0.out, rfl, ?_⟩, ?_⟩
      · exact (HRd.out.only o5 (by simp; omega) (by simp; omega)).only S2.out (by simp; omega) (by simp; omega)
      · exact (ho4.trans o5 (fun k hk => .inr (by simp at hk; subst hk; exact l1))).trans S2.out (fun k hk => .inr (by simp at hk; subst hk; exact hg5))
    · have HR0 := Lib.hid hR0
      have HRd := Lib.hid hRd
      clear hR0 hRd
      go_wp2_with fail
      refine leaves_cons (f := 35) (args := #[.pointer (some ⟨g4, 0, none⟩), .pointer (some ⟨g5, 0, none⟩)]) (by simp) (by simp [go_sem]) ?_
      refine (catch_p g4 g5 z64 R.1 0 _ b44 b54 h45).mono ?_
      rintro e u' w'' ⟨rfl, rfl, b46, b56, o6⟩
      refine ⟨_, resTE rfl b46 b56 rfl rfl, .inr ⟨HR0.out, rfl, at_, ?_⟩, ?_⟩
      · exact HRd.out.only o6 (by simp; omega) (by simp; omega)
      · exact ho4.trans o6 (fun k hk => .inr (by simp at hk; rcases hk with rfl | rfl; exact l1; exact hg5))
  · have hv : vst f = false := by unfold vst; exact decide_eq_false hf
    have hR' : R = (1, z64, 0) := by rw [← HRR.out]; unfold TR; rw [if_neg hf]
    subst hR'
    clear hf HRR
    have tok3 : True := trivial
    have tok4 : True := trivial
    go_wp2_with (first | (clear tok3; refine bld64 rfl rfl ?_) | (clear tok4; refine sr64 (y := fun _ => 0) b4 rfl rfl rfl rfl ?_; rintro w5 b45 o5 l5; have b55 := b2.only o5 (by simp [Ne.symm h45]); have c5 : w5.cell? ⟨g5, 0, none⟩ = some (.int .i64 0) := b55.cell 0; have z5 := b55.frozen 0; obtain ⟨s1, s2⟩ := b55.set1 0 (.int .i64 1); have S1 := Lib.hid s1; have S2 := Lib.hid s2; clear s1 s2))
    refine ⟨_, resTE rfl (b45.far (p := ⟨g5, 0, none⟩) h45 _) S1.out rfl rfl, .inr ⟨by simp, rfl, at0, ?_⟩, ?_⟩
    · exact (HR2.out.only o5 (by simp; omega) (by simp; omega)).only S2.out (by simp; omega) (by simp; omega)
    · exact ((ho2.mono (by simp)).trans o5 (fun k hk => .inr (by simp at hk; subst hk; exact l1))).trans S2.out (fun k hk => .inr (by simp at hk; subst hk; exact hg5))
end Go.Proofs.Ytkojnmphgdlmdaa
