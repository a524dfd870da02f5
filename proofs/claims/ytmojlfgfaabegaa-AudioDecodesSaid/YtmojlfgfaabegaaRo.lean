/- Contracts of the reference's reader of chapter 2: Open, Left, Take. -/
import Derived.Test.YtmojlfgfaabegaaTk
namespace Go.Proofs.Ytmojlfgfaabegaa
open Go.RowKit bt

/-- At block g there is a reader of the reference: of the bits l, which lie in block b; 'at_' bits have been taken. -/
def RefIs (w : World) (g b c : Nat) (l : List Bool) (at_ : Nat) : Prop :=
  Blk w g 74 #[.slice (some ⟨b, 0, none⟩) l.length c, .int .i64 (at_ : Int)] ∧ Reads w (some ⟨b, 0, none⟩) 1 l.length (bytesV (flat l)) ∧ g ≠ b ∧ at_ ≤ l.length ∧ l.length ≤ 1099511627776
theorem RefIs.only {w w' : World} {g b c : Nat} {l : List Bool} {at_ : Nat} {F : List Nat} (h : RefIs w g b c l at_) (ho : Only F w w') (hg : g ∉ F) (hb : b ∉ F) : RefIs w' g b c l at_ :=
  ⟨h.1.only ho hg, h.2.1.only ho (fun _ ad e => by injection e with e; subst e; exact hb), h.2.2⟩

theorem refLeft_any (w : World) (g b c : Nat) (l : List Bool) (at_ : Nat) (h : RefIs w g b c l at_) :
    Calls Try.prog 39 #[.pointer (some ⟨g, 0, none⟩)] w fun e w' => e = .returned (.int .i64 ((l.length : Int) - (at_ : Int))) ∧ w.drew = w' := by
  obtain ⟨hb, _, _, h2, h3⟩ := h
  have hc0 := hb.cell 0
  have hc1 := hb.cell 1
  simp only [List.getElem?_toArray, List.getElem?_cons_succ, List.getElem?_cons_zero] at hc0 hc1
  clear hb
  go_enter Try.func39, Try.ntmps39
  go_wp2
  go_region
  all_goals go_wp2
  go_ret
  exact ⟨rfl, rfl⟩

theorem RefIs.drew {w : World} {g b c : Nat} {l : List Bool} {at_ : Nat} (h : RefIs w g b c l at_) : RefIs w.drew g b c l at_ := h.only ((Only.refl [] _).drew) (by simp) (by simp)
theorem ReaderIs.drew {w : World} {g b : Nat} {p : List Nat} {n at_ : Nat} (h : ReaderIs w g b p n at_) : ReaderIs w.drew g b p n at_ := h.only ((Only.refl [] _).drew) (by simp) (by simp)

theorem ref_bit (l : List Bool) (i : Nat) (b : Bool) (h : l[i]? = some b) : (bytesV (flat l))[i]? = some (.int .u8 (b.toNat : Int)) := by
  simp [bytesV, flat, h]

set_option maxHeartbeats 1000000 in
theorem refTake_any (w : World) (g b c : Nat) (l : List Bool) (at_ : Nat) (k : Int) (h : RefIs w g b c l at_) :
    Calls Try.prog 40 #[.pointer (some ⟨g, 0, none⟩), .int .i64 k] w fun e w' => e = .returned (.tuple #[.int .u32 (takeVal l at_ k : Int), .int .i64 (takeErr l.length at_ k)]) ∧ RefIs w' g b c l (takeAt l.length at_ k) ∧ Only [g] w w' := by
  have hgb := h.2.2.1
  have hat := h.2.2.2.1
  have hll := h.2.2.2.2
  unfold takeVal takeAt takeErr
  by_cases h1 : k < 0
  · simp only [if_pos (Or.inl h1 : k < 0 ∨ 32 < k)]
    have hd1 : decide (k < 0) = true := by simpa using h1
    have Hh := Lib.hid h
    clear h
    go_enter Try.func40, Try.ntmps40
    go_wp2
    go_ret2
    exact ⟨rfl, Hh.out, Only.refl _ _⟩
  · have hd1 : decide (k < 0) = false := by simp; omega
    by_cases h2 : 32 < k
    · simp only [if_pos (Or.inr h2 : k < 0 ∨ 32 < k)]
      have hd2 : decide (32 < k) = true := by simpa using h2
      have Hh := Lib.hid h
      clear h
      go_enter Try.func40, Try.ntmps40
      go_wp2
      go_ret2
      exact ⟨rfl, Hh.out, Only.refl _ _⟩
    · have hd2 : decide (32 < k) = false := by simp; omega
      simp only [if_neg (by omega : ¬ (k < 0 ∨ 32 < k))]
      obtain ⟨k', rfl⟩ : ∃ k' : Nat, k = k' := ⟨k.toNat, by omega⟩
      simp only [Int.toNat_natCast]
      by_cases h3 : l.length < at_ + k'
      · simp only [if_pos h3]
        have hd3 : decide (((l.length : Int) - (at_ : Int)) < (k' : Int)) = true := by simp; omega
        have Hh := Lib.hid h
        clear h
        go_enter Try.func40, Try.ntmps40
        go_wp2_with (go_at_call 39; refine (refLeft_any _ _ _ _ _ _ Hh.out).mono ?_; rintro e w' ⟨rfl, rfl⟩)
        go_ret2
        exact ⟨rfl, Hh.out.drew, (Only.refl _ _).drew⟩
      · simp only [if_neg h3, if_true]
        have hd3 : decide (((l.length : Int) - (at_ : Int)) < (k' : Int)) = false := by simp; omega
        have Hh := Lib.hid h
        clear h
        go_enter Try.func40, Try.ntmps40
        go_wp2_with (go_at_call 39; refine (refLeft_any _ _ _ _ _ _ Hh.out).mono ?_; rintro e w' ⟨rfl, rfl⟩)
        clear hd1 hd2 hd3
        go_loopw [6, 7] (fun v i wr => ∃ q : Nat, q ≤ k' ∧ i = .int .i64 q ∧ v = .int .u32 (num (window l at_ q) : Int) ∧ RefIs wr g b c l at_ ∧ Only [] w wr) (fun _ i _ => k' - (intOf i).toNat)
        case atStart => exact ⟨0, Nat.zero_le _, rfl, rfl, Hh.out.drew, (Only.refl _ _).drew⟩
        case round =>
          obtain ⟨q, hq, rfl, rfl, hrf, ho⟩ := hrel
          have hc0 := hrf.1.cell 0
          have hc1 := hrf.1.cell 1
          have hf1 := hrf.1.frozen 1
          simp only [List.getElem?_toArray, List.getElem?_cons_succ, List.getElem?_cons_zero] at hc0 hc1
          have Hrf := Lib.hid hrf
          clear hrf
          by_cases hlt : q < k'
          · obtain ⟨x, hx⟩ : ∃ x, l[at_ + q]? = some x := ⟨_, List.getElem?_eq_getElem (by omega)⟩
            obtain ⟨b', off, e, hcc⟩ := Hrf.out.2.1.plain (by omega) (by omega)
            injection e with e
            injection e with e1 e2
            subst e1 e2
            have hcx := hcc _ _ (ref_bit l _ _ hx)
            rw [Nat.zero_add] at hcx
            have hi1 : (at_ : Int) + (q : Int) < (l.length : Int) := by omega
            have hi0 : (0 : Int) ≤ (at_ : Int) + (q : Int) := by omega
            have Hx := Lib.hid hx
            clear hcc hx
            go_wp2_with fail
            go_quiet (fail)
            go_wp2_with fail
            go_roundw
            case rel =>
              have hwl := window_length l at_ q (by omega)
              have hb2 : x.toNat < 2 := by cases x <;> decide
              have e1 : (x.toNat : Int) % 4294967296 = (x.toNat : Int) := by omega
              have hbit : bits BinOp.or IntKind.u32 ((num (window l at_ q) : Int) * 2 % 4294967296) ((x.toNat : Int) % 4294967296) = (num (window l at_ (q + 1)) : Int) := by
                rw [e1, take_num _ _ (by omega), ← window_snoc _ _ _ _ Hx.out]
              refine ⟨q + 1, by omega, by go_num, ?_, ?_, ?_⟩
              · rw [hbit]
              · exact Hrf.out.only ((Only.refl [] _).drewN _) (by simp) (by simp)
              · exact ho.drewN _
            case measure => simp [intOf]; omega
          · go_wp2
            go_ret2
            obtain rfl : q = k' := by omega
            have h5 := Hrf.out.1.set_ 1 (.int .i64 ((at_ : Int) + (q : Int)))
            have ho2 := (Only.refl [g] wr).setCell (p := ⟨g, 1, none⟩) (.inl (by simp)) (.int .i64 ((at_ : Int) + (q : Int)))
            refine ⟨rfl, ⟨?_, Hrf.out.2.1.only ho2 (fun _ ad e => by injection e with e; subst e; simpa using Ne.symm hgb), hgb, by omega, hll⟩, (ho.mono (by simp)).trans ho2 (Fresh.refl _ _)⟩
            have e : ((at_ + q : Nat) : Int) = (at_ : Int) + (q : Int) := by omega
            rw [e]
            simpa using h5
end Go.Proofs.Ytmojlfgfaabegaa
