/- Sound as rows of samples; proper; appendSum. -/
import Derived.Test.YtmojlfgfaabegaaA3
namespace Go.Proofs.Ytmojlfgfaabegaa
open Go.RowKit bt

/-- The headers of the channels. -/
def rowsV (hs : List (Option Addr × Nat)) (ls : List (List Int)) : List Value := List.zipWith (fun h l => .slice h.1 l.length h.2) hs ls
structure PcmIs (w : World) (A : Option Addr) (hs : List (Option Addr × Nat)) (ls : List (List Int)) : Prop where
  len : hs.length = ls.length
  row : Reads w A 1 ls.length (rowsV hs ls)
  each : ∀ (i : Nat) (h : Option Addr × Nat) (l : List Int), hs[i]? = some h → ls[i]? = some l → Reads w h.1 1 l.length (sV l)
  cap : ∀ (i : Nat) (h : Option Addr × Nat) (l : List Int), hs[i]? = some h → ls[i]? = some l → l.length ≤ h.2
theorem PcmIs.then {w w' : World} {A : Option Addr} {hs : List (Option Addr × Nat)} {ls : List (List Int)} (h : PcmIs w A hs ls) (ho : Only [] w w') : PcmIs w' A hs ls :=
  ⟨h.len, h.row.then ho, fun i x l h1 h2 => (h.each i x l h1 h2).then ho, h.cap⟩
theorem PcmIs.at_ {w : World} {A : Option Addr} {hs : List (Option Addr × Nat)} {ls : List (List Int)} (h : PcmIs w A hs ls) {i : Nat} {l : List Int} (hi : ls[i]? = some l) :
    ∃ b off B c, A = some ⟨b, off, none⟩ ∧ w.cell? ⟨b, off + i, none⟩ = some (.slice B l.length c) ∧ Reads w B 1 l.length (sV l) ∧ hs[i]? = some (B, c) := by
  have hlt : i < ls.length := (List.getElem?_eq_some_iff.1 hi).1
  obtain ⟨x, hx⟩ : ∃ x, hs[i]? = some x := ⟨_, List.getElem?_eq_getElem (by rw [h.len]; exact hlt)⟩
  obtain ⟨b, off, rfl, hc⟩ := h.row.plain (by omega) (by omega)
  refine ⟨b, off, x.1, x.2, rfl, hc _ _ ?_, h.each i x l hx hi, hx⟩
  unfold rowsV
  rw [List.getElem?_zipWith, hx, hi]
/-- Whether sound is proper. -/
def pr (ls : List (List Int)) (most : Int) : Bool := decide (1 ≤ ls.length) && (decide (ls.length ≤ 4) && ls.all fun l => decide (l.length = (ls.headD []).length) && decide ((l.length : Int) ≤ most))
theorem pr_len {ls : List (List Int)} {most : Int} (h : ¬ (1 ≤ ls.length ∧ ls.length ≤ 4)) : pr ls most = false := by
  unfold pr
  by_cases h1 : 1 ≤ ls.length
  · rw [decide_eq_true h1, decide_eq_false (p := ls.length ≤ 4) (fun h2 => h ⟨h1, h2⟩)]; rfl
  · rw [decide_eq_false h1]; rfl
theorem pr_true {ls : List (List Int)} {most : Int} : pr ls most = true ↔ 1 ≤ ls.length ∧ ls.length ≤ 4 ∧ ∀ l ∈ ls, l.length = (ls.headD []).length ∧ (l.length : Int) ≤ most := by
  unfold pr
  simp [List.all_eq_true]
theorem pr_bad {ls : List (List Int)} {most : Int} {k : Nat} {l : List Int} (hk : ls[k]? = some l) (h : ¬ (l.length = (ls.headD []).length ∧ (l.length : Int) ≤ most)) : pr ls most = false := by
  cases hp : pr ls most with
  | false => rfl
  | true => exact absurd ((pr_true.1 hp).2.2 l (List.mem_of_getElem? hk)) h
set_option maxRecDepth 100000 in
set_option maxHeartbeats 2000000 in
theorem proper_any (w : World) (A : Option Addr) (c : Nat) (hs : List (Option Addr × Nat)) (ls : List (List Int)) (h : PcmIs w A hs ls) (most : Int) (hn : ls.length ≤ 1099511627776) (hm : ∀ l ∈ ls, l.length ≤ 9223372036854775807) :
    Calls Try.prog 43 #[.slice A ls.length c, .int .i64 most] w fun e w' => e = .returned (.bool (pr ls most)) ∧ w = w' := by
  have HP := Lib.hid h
  have HM := Lib.hid hm
  clear h hm
  go_enter Try.func43, Try.ntmps43
  by_cases h1 : ls.length < 1
  · have HE := Lib.hid (pr_len (ls := ls) (most := most) (by omega))
    have h1' : (ls.length : Int) < 1 := by omega
    clear h1
    go_wp2_with fail
    go_ret
    exact ⟨by rw [HE.out]; rfl, rfl⟩
  by_cases h2 : 4 < ls.length
  · have HE := Lib.hid (pr_len (ls := ls) (most := most) (by omega))
    have hd1 : decide ((ls.length : Int) < 1) = false := decide_eq_false (by omega)
    have h2' : (4 : Int) < (ls.length : Int) := by omega
    clear h1 h2
    go_wp2_with fail
    go_ret
    exact ⟨by rw [HE.out]; rfl, rfl⟩
  have hd1 : decide ((ls.length : Int) < 1) = false := decide_eq_false (by omega)
  have hd2 : decide ((4 : Int) < (ls.length : Int)) = false := decide_eq_false (by omega)
  have hl1 : 1 ≤ ls.length := by omega
  have hl4 : ls.length ≤ 4 := by omega
  clear h1 h2
  go_wp2_with fail
  clear hd1 hd2
  go_loopw [17] (fun i wr => ∃ k : Nat, k ≤ ls.length ∧ i = .int .i64 (k : Int) ∧ Hid (∀ j l, j < k → ls[j]? = some l → l.length = (ls.headD []).length ∧ (l.length : Int) ≤ most) ∧ w = wr) (fun i _ => ls.length - (intOf i).toNat)
  case atStart => exact ⟨0, Nat.zero_le _, rfl, Lib.hid (fun j l hj => by omega), rfl⟩
  case round =>
    obtain ⟨k, hk, rfl, HA, rfl⟩ := hrel
    by_cases hlt : k < ls.length
    · obtain ⟨l, hl⟩ : ∃ l, ls[k]? = some l := ⟨_, List.getElem?_eq_getElem hlt⟩
      obtain ⟨l0, hl0⟩ : ∃ l0, ls[0]? = some l0 := ⟨_, List.getElem?_eq_getElem (by omega)⟩
      have hhd : ls.headD [] = l0 := by
        cases ls with
        | nil => simp at hl0
        | cons y m => simp at hl0; subst hl0; rfl
      obtain ⟨b, off, B, cB, rfl, c1, _, _⟩ := HP.out.at_ hl
      obtain ⟨b', off', B0, c0, hA, c2, _, _⟩ := HP.out.at_ hl0
      injection hA with hA
      injection hA with hA1 hA2
      subst hA1 hA2
      rw [Nat.add_zero] at c2
      have hki : (k : Int) < (ls.length : Int) := by omega
      have hlm := HM.out l (List.mem_of_getElem? hl)
      have Hl := Lib.hid hl
      have Hhd := Lib.hid hhd
      have hz : (0 : Int) < (ls.length : Int) := by omega
      clear hl hl0 hhd
      by_cases he : l.length = l0.length
      · by_cases hmo : most < (l.length : Int)
        · have HE := Lib.hid (pr_bad (most := most) Hl.out (fun h => by omega))
          have hne : ((l.length : Int) != (l0.length : Int)) = false := by simp; omega
          clear he
          go_wp2_with fail
          go_ret
          exact ⟨by rw [HE.out]; rfl, rfl⟩
        · have hA2 : ∀ j m, j < k + 1 → ls[j]? = some m → m.length = (ls.headD []).length ∧ (m.length : Int) ≤ most := fun j m hj hm => by
            by_cases hjk : j = k
            · subst hjk; rw [Hl.out] at hm; cases hm; rw [Hhd.out]; exact ⟨he, by omega⟩
            · exact HA.out j m (by omega) hm
          have HA2 := Lib.hid hA2
          have hne : ((l.length : Int) != (l0.length : Int)) = false := by simp; omega
          have hmd : decide (most < (l.length : Int)) = false := decide_eq_false hmo
          clear hA2 he hmo
          go_wp2_with fail
          go_roundw
          case rel => exact ⟨k + 1, by omega, by go_num, HA2, by first | rfl | trivial⟩
          case measure => simp [intOf]; omega
      · have HE := Lib.hid (pr_bad (most := most) Hl.out (fun h => he (by rw [Hhd.out] at h; exact h.1)))
        have hne : ((l.length : Int) != (l0.length : Int)) = true := by simp; omega
        clear he
        go_wp2_with fail
        go_ret
        exact ⟨by rw [HE.out]; rfl, rfl⟩
    · have hke : k = ls.length := by omega
      subst hke
      have HE := Lib.hid (show pr ls most = true from pr_true.2 ⟨hl1, hl4, fun l hl => by obtain ⟨j, hj⟩ := List.getElem?_of_mem hl; exact HA.out j l ((List.getElem?_eq_some_iff.1 hj).1) hj⟩)
      go_wp2_with fail
      go_ret
      exact ⟨by rw [HE.out]; rfl, rfl⟩
end Go.Proofs.Ytmojlfgfaabegaa
