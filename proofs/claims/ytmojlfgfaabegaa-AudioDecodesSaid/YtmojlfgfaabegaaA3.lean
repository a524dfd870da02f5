/- Block sizes, exponents, errors: contracts of both. -/
import Derived.Test.YtmojlfgfaabegaaA2
namespace Go.Proofs.Ytmojlfgfaabegaa
open Go.RowKit bt

def sV (l : List Int) : List Value := l.map (Value.int .i16)
def fit (e : Nat) (x : Int) : Bool := decide (-256 * 2 ^ e ≤ x ∧ x ≤ 256 * 2 ^ e - 1)
theorem fit_true {e : Nat} {x : Int} : fit e x = true ↔ -256 * 2 ^ e ≤ x ∧ x ≤ 256 * 2 ^ e - 1 := by unfold fit; simp
def upF : Nat → Nat → Int → Nat
  | 0, e, _ => e
  | k + 1, e, x => if fit e x = true then e else upF k (e + 1) x
/-- The least exponent from e on that serves x. -/
def up (e : Nat) (x : Int) : Nat := upF (7 - e) e x
def expo (l : List Int) : Nat := l.foldl up 0
theorem upF_le : ∀ (k e : Nat) (x : Int), upF k e x ≤ e + k
  | 0, e, x => by simp [upF]
  | k + 1, e, x => by
    simp only [upF]
    split
    · omega
    · have := upF_le k (e + 1) x; omega
theorem up_le {e : Nat} (h : e ≤ 7) (x : Int) : up e x ≤ 7 := by have := upF_le (7 - e) e x; unfold up; omega
theorem expo_le (l : List Int) : expo l ≤ 7 := by
  have : ∀ (l : List Int) (e : Nat), e ≤ 7 → l.foldl up e ≤ 7 := by
    intro l
    induction l with
    | nil => intro e h; exact h
    | cons x l ih => intro e h; exact ih _ (up_le h x)
  exact this l 0 (by omega)
theorem expo_take {l : List Int} {k : Nat} {x : Int} (h : l[k]? = some x) : expo (l.take (k + 1)) = up (expo (l.take k)) x := by
  unfold expo
  rw [List.take_add_one, h]
  simp
theorem up_fit {e : Nat} {x : Int} (h : fit e x = true) : up e x = e := by
  unfold up
  cases hk : 7 - e with
  | zero => rfl
  | succ k => simp only [upF]; rw [if_pos h]
theorem up_next {e : Nat} {x : Int} (h : ¬ fit e x = true) (he : e < 7) : up e x = up (e + 1) x := by
  unfold up
  obtain ⟨k, hk⟩ : ∃ k, 7 - e = k + 1 := ⟨6 - e, by omega⟩
  rw [hk, show 7 - (e + 1) = k by omega]
  simp only [upF]
  rw [if_neg h]
def hlfE (e : Nat) : Nat := if e = 0 then 0 else 2 ^ (e - 1)
theorem blockSize_any (w : World) (n : Int) (hn : -9223372036854775808 ≤ n ∧ n ≤ 9223372036854775807) : Calls Try.prog 15 #[.int .i64 n] w fun e w' => e = .returned (.int .i64 (bsz n)) ∧ w = w' := by
  go_enter Try.func15, Try.ntmps15
  by_cases h1 : n < 1
  · have HE := Lib.hid (show bsz n = 0 by unfold bsz; rw [if_pos (.inl h1)])
    go_wp2_with fail
    go_ret
    exact ⟨by rw [HE.out]; rfl, rfl⟩
  · have hd1 : decide (n < 1) = false := decide_eq_false h1
    have h1' : 1 ≤ n := by omega
    clear h1
    by_cases h2 : 4 < n
    · have HE := Lib.hid (show bsz n = 0 by unfold bsz; rw [if_pos (.inr h2)])
      go_wp2_with fail
      go_ret
      exact ⟨by rw [HE.out]; rfl, rfl⟩
    · have hn4 : n = 1 ∨ n = 2 ∨ n = 3 ∨ n = 4 := by omega
      clear h2 hd1 h1' hn
      rcases hn4 with rfl | rfl | rfl | rfl
      all_goals
        go_wp2_with fail
        go_ret
        exact ⟨rfl, rfl⟩
theorem refBlockSize_any (w : World) (n : Int) (hn : -9223372036854775808 ≤ n ∧ n ≤ 9223372036854775807) : Calls Try.prog 16 #[.int .i64 n] w fun e w' => e = .returned (.int .i64 (bsz n)) ∧ w = w' := by
  go_enter Try.func16, Try.ntmps16
  by_cases h1 : n < 1
  · have HE := Lib.hid (show bsz n = 0 by unfold bsz; rw [if_pos (.inl h1)])
    go_wp2_with fail
    go_ret
    exact ⟨by rw [HE.out]; rfl, rfl⟩
  · have hd1 : decide (n < 1) = false := decide_eq_false h1
    have h1' : 1 ≤ n := by omega
    clear h1
    by_cases h2 : 4 < n
    · have HE := Lib.hid (show bsz n = 0 by unfold bsz; rw [if_pos (.inr h2)])
      go_wp2_with fail
      go_ret
      exact ⟨by rw [HE.out]; rfl, rfl⟩
    · have hn4 : n = 1 ∨ n = 2 ∨ n = 3 ∨ n = 4 := by omega
      clear h2 hd1 h1' hn
      rcases hn4 with rfl | rfl | rfl | rfl
      all_goals
        go_wp2_with fail
        go_ret
        exact ⟨rfl, rfl⟩
set_option maxRecDepth 100000 in
set_option maxHeartbeats 4000000 in
theorem exponent_any (w : World) (A : Option Addr) (c : Nat) (l : List Int) (hr : Reads w A 1 l.length (sV l)) (hl : ∀ x ∈ l, -32768 ≤ x ∧ x ≤ 32767) (hn : l.length ≤ 1099511627776) :
    Calls Try.prog 45 #[.slice A l.length c] w fun e w' => e = .returned (.int .i64 (expo l : Int)) ∧ w = w' := by
  have Hr := Lib.hid hr
  have Hl := Lib.hid hl
  clear hr hl
  go_enter Try.func45, Try.ntmps45
  go_wp2_with fail
  go_loopw [3, 8] (fun ev i wr => ∃ k : Nat, k ≤ l.length ∧ i = .int .i64 (k : Int) ∧ ∃ e : Nat, ev = .int .i64 (e : Int) ∧ Hid (expo (l.take k) = e) ∧ w = wr) (fun _ i _ => l.length - (intOf i).toNat)
  case atStart => exact ⟨0, Nat.zero_le _, rfl, 0, rfl, rfl, rfl⟩
  case round =>
    obtain ⟨k, hk, rfl, e0, rfl, He0, rfl⟩ := hrel
    have he0 : e0 ≤ 7 := by rw [← He0.out]; exact expo_le _
    by_cases hlt : k < l.length
    · obtain ⟨x, hx⟩ : ∃ x, l[k]? = some x := ⟨_, List.getElem?_eq_getElem hlt⟩
      have hx' : (sV l)[k]? = some (.int .i16 x) := by simp [sV, hx]
      have hx8 := Hl.out x (List.mem_of_getElem? hx)
      obtain ⟨b, off, rfl, hc⟩ := Hr.out.plain (by omega) (by omega)
      have hcx := hc _ _ hx'
      have hki : (k : Int) < (l.length : Int) := by omega
      have Hn := Lib.hid (show expo (l.take (k + 1)) = up e0 x by rw [expo_take hx, He0.out])
      clear hc hx' hx
      go_wp2_with fail
      go_loopw [3] (fun ev wr => ∃ e : Nat, e ≤ 7 ∧ ev = .int .i64 (e : Int) ∧ Hid (up e x = up e0 x) ∧ w = wr) (fun ev _ => 8 - (intOf ev).toNat)
      case atStart => exact ⟨e0, he0, rfl, rfl, rfl⟩
      case round =>
        obtain ⟨e, he, rfl, Hup, rfl⟩ := hrel
        by_cases hf : fit e x = true
        · have Hr2 := Lib.hid (show expo (l.take (k + 1)) = e by rw [Hn.out, ← Hup.out, up_fit hf])
          have hb := fit_true.1 hf
          clear hf Hn Hup
          have hc8 : e = 0 ∨ e = 1 ∨ e = 2 ∨ e = 3 ∨ e = 4 ∨ e = 5 ∨ e = 6 ∨ e = 7 := by omega
          rcases hc8 with rfl | rfl | rfl | rfl | rfl | rfl | rfl | rfl
          all_goals
            have hb1 := hb.1
            have hb2 := hb.2
            simp only [Int.reducePow, Int.reduceMul, Int.reduceNeg, Int.reduceSub] at hb1 hb2
            clear hb
            go_wp2_with fail
            go_roundw
            case rel => exact ⟨k + 1, by omega, by go_num, _, rfl, Hr2, by first | rfl | trivial⟩
            case measure => simp [intOf]; omega
        · have he7 : e < 7 := by
            rcases Nat.lt_or_ge e 7 with h | h
            · exact h
            · have : e = 7 := by omega
              subst this
              exact absurd (fit_true.2 (by omega)) hf
          have Hup2 := Lib.hid (show up (e + 1) x = up e0 x by rw [← up_next hf he7, Hup.out])
          have hb : x < -256 * 2 ^ e ∨ 256 * 2 ^ e - 1 < x := by
            by_cases h1 : x < -256 * 2 ^ e
            · exact .inl h1
            · by_cases h2 : 256 * 2 ^ e - 1 < x
              · exact .inr h2
              · exact absurd (fit_true.2 ⟨by omega, by omega⟩) hf
          clear hf Hup Hn
          have hc8 : e = 0 ∨ e = 1 ∨ e = 2 ∨ e = 3 ∨ e = 4 ∨ e = 5 ∨ e = 6 := by omega
          rcases hc8 with rfl | rfl | rfl | rfl | rfl | rfl | rfl
          all_goals
            simp only [Int.reducePow, Int.reduceMul, Int.reduceNeg, Int.reduceSub] at hb
            rcases hb with hb | hb
            all_goals
              go_wp2_with fail
              go_roundw
              case rel => exact ⟨_, by omega, by go_num, Hup2, by first | rfl | trivial⟩
              case measure => simp [intOf]
    · have hke : k = l.length := by omega
      subst hke
      rw [List.take_length] at He0
      go_wp2_with fail
      go_ret
      refine ⟨?_, rfl⟩
      rw [He0.out]
      rfl
set_option maxRecDepth 100000 in
set_option maxHeartbeats 4000000 in
theorem refExponent_any (w : World) (A : Option Addr) (c : Nat) (l : List Int) (hr : Reads w A 1 l.length (sV l)) (hl : ∀ x ∈ l, -32768 ≤ x ∧ x ≤ 32767) (hn : l.length ≤ 1099511627776) :
    Calls Try.prog 50 #[.slice A l.length c] w fun e w' => e = .returned (.int .i64 (expo l : Int)) ∧ w = w' := by
  have Hr := Lib.hid hr
  have Hl := Lib.hid hl
  clear hr hl
  go_enter Try.func50, Try.ntmps50
  go_wp2_with fail
  go_loopw [3, 4] (fun ev i wr => ∃ k : Nat, k ≤ l.length ∧ i = .int .i64 (k : Int) ∧ ∃ e : Nat, ev = .int .i64 (e : Int) ∧ Hid (expo (l.take k) = e) ∧ w = wr) (fun _ i _ => l.length - (intOf i).toNat)
  case atStart => exact ⟨0, Nat.zero_le _, rfl, 0, rfl, rfl, rfl⟩
  case round =>
    obtain ⟨k, hk, rfl, e0, rfl, He0, rfl⟩ := hrel
    have he0 : e0 ≤ 7 := by rw [← He0.out]; exact expo_le _
    by_cases hlt : k < l.length
    · obtain ⟨x, hx⟩ : ∃ x, l[k]? = some x := ⟨_, List.getElem?_eq_getElem hlt⟩
      have hx' : (sV l)[k]? = some (.int .i16 x) := by simp [sV, hx]
      have hx8 := Hl.out x (List.mem_of_getElem? hx)
      obtain ⟨b, off, rfl, hc⟩ := Hr.out.plain (by omega) (by omega)
      have hcx := hc _ _ hx'
      have hki : (k : Int) < (l.length : Int) := by omega
      have Hn := Lib.hid (show expo (l.take (k + 1)) = up e0 x by rw [expo_take hx, He0.out])
      clear hc hx' hx
      go_wp2_with fail
      go_loopw [3] (fun ev wr => ∃ e : Nat, e ≤ 7 ∧ ev = .int .i64 (e : Int) ∧ Hid (up e x = up e0 x) ∧ w = wr) (fun ev _ => 8 - (intOf ev).toNat)
      case atStart => exact ⟨e0, he0, rfl, rfl, rfl⟩
      case round =>
        obtain ⟨e, he, rfl, Hup, rfl⟩ := hrel
        by_cases hf : fit e x = true
        · have Hr2 := Lib.hid (show expo (l.take (k + 1)) = e by rw [Hn.out, ← Hup.out, up_fit hf])
          have hb := fit_true.1 hf
          clear hf Hn Hup
          have hc8 : e = 0 ∨ e = 1 ∨ e = 2 ∨ e = 3 ∨ e = 4 ∨ e = 5 ∨ e = 6 ∨ e = 7 := by omega
          rcases hc8 with rfl | rfl | rfl | rfl | rfl | rfl | rfl | rfl
          all_goals
            have hb1 := hb.1
            have hb2 := hb.2
            simp only [Int.reducePow, Int.reduceMul, Int.reduceNeg, Int.reduceSub] at hb1 hb2
            clear hb
            go_wp2_with fail
            go_roundw
            case rel => exact ⟨k + 1, by omega, by go_num, _, rfl, Hr2, by first | rfl | trivial⟩
            case measure => simp [intOf]; omega
        · have he7 : e < 7 := by
            rcases Nat.lt_or_ge e 7 with h | h
            · exact h
            · have : e = 7 := by omega
              subst this
              exact absurd (fit_true.2 (by omega)) hf
          have Hup2 := Lib.hid (show up (e + 1) x = up e0 x by rw [← up_next hf he7, Hup.out])
          have hb : x < -256 * 2 ^ e ∨ 256 * 2 ^ e - 1 < x := by
            by_cases h1 : x < -256 * 2 ^ e
            · exact .inl h1
            · by_cases h2 : 256 * 2 ^ e - 1 < x
              · exact .inr h2
              · exact absurd (fit_true.2 ⟨by omega, by omega⟩) hf
          clear hf Hup Hn
          have hc8 : e = 0 ∨ e = 1 ∨ e = 2 ∨ e = 3 ∨ e = 4 ∨ e = 5 ∨ e = 6 := by omega
          rcases hc8 with rfl | rfl | rfl | rfl | rfl | rfl | rfl
          all_goals
            simp only [Int.reducePow, Int.reduceMul, Int.reduceNeg, Int.reduceSub] at hb
            rcases hb with hb | hb
            all_goals
              go_wp2_with fail
              go_roundw
              case rel => exact ⟨_, by omega, by go_num, Hup2, by first | rfl | trivial⟩
              case measure => simp [intOf]
    · have hke : k = l.length := by omega
      subst hke
      rw [List.take_length] at He0
      go_wp2_with fail
      go_ret
      refine ⟨?_, rfl⟩
      rw [He0.out]
      rfl
theorem offset_any (w : World) (e : Nat) (he : e ≤ 7) : Calls Try.prog 53 #[.int .i64 (e : Int)] w fun r w' => r = .returned (.int .i64 (hlfE e : Int)) ∧ w = w' := by
  go_enter Try.func53, Try.ntmps53
  have hc8 : e = 0 ∨ e = 1 ∨ e = 2 ∨ e = 3 ∨ e = 4 ∨ e = 5 ∨ e = 6 ∨ e = 7 := by omega
  clear he
  rcases hc8 with rfl | rfl | rfl | rfl | rfl | rfl | rfl | rfl
  all_goals
    go_wp2_with fail
    go_ret
    exact ⟨rfl, rfl⟩
theorem refHalf_any (w : World) (e : Nat) (he : e ≤ 7) : Calls Try.prog 41 #[.int .i64 (e : Int)] w fun r w' => r = .returned (.int .i64 (hlfE e : Int)) ∧ w = w' := by
  go_enter Try.func41, Try.ntmps41
  have hc8 : e = 0 ∨ e = 1 ∨ e = 2 ∨ e = 3 ∨ e = 4 ∨ e = 5 ∨ e = 6 ∨ e = 7 := by omega
  clear he
  rcases hc8 with rfl | rfl | rfl | rfl | rfl | rfl | rfl | rfl
  all_goals
    go_wp2_with fail
    go_ret
    exact ⟨rfl, rfl⟩
theorem error_any (w : World) (A : Option Addr) (c : Nat) (l : List Int) (hr : Reads w A 1 l.length (sV l)) (hl : ∀ x ∈ l, -32768 ≤ x ∧ x ≤ 32767) (hn : l.length ≤ 1099511627776) :
    Calls Try.prog 24 #[.slice A l.length c] w fun e w' => e = .returned (.int .i64 (hlfE (expo l) : Int)) ∧ w = w' := by
  have hx := exponent_any w A c l hr hl hn
  have hle := expo_le l
  go_enter Try.func24, Try.ntmps24
  go_wp2_with fail
  refine hx.mono ?_
  rintro e w1 ⟨rfl, rfl⟩
  go_wp2_with fail
  refine (offset_any _ _ hle).mono ?_
  rintro e w1 ⟨rfl, rfl⟩
  go_wp2_with fail
  go_ret
  exact ⟨rfl, rfl⟩
theorem refError_any (w : World) (A : Option Addr) (c : Nat) (l : List Int) (hr : Reads w A 1 l.length (sV l)) (hl : ∀ x ∈ l, -32768 ≤ x ∧ x ≤ 32767) (hn : l.length ≤ 1099511627776) :
    Calls Try.prog 25 #[.slice A l.length c] w fun e w' => e = .returned (.int .i64 (hlfE (expo l) : Int)) ∧ w = w' := by
  have hx := refExponent_any w A c l hr hl hn
  have hle := expo_le l
  go_enter Try.func25, Try.ntmps25
  go_wp2_with fail
  refine hx.mono ?_
  rintro e w1 ⟨rfl, rfl⟩
  go_wp2_with fail
  refine (refHalf_any _ _ hle).mono ?_
  rintro e w1 ⟨rfl, rfl⟩
  go_wp2_with fail
  go_ret
  exact ⟨rfl, rfl⟩
end Go.Proofs.Ytmojlfgfaabegaa
