/- The laws' helpers awake, light and sameNumbers; the reference's Same. -/
import Derived.Test.YtmojlfgfaabegaaA13
import Derived.Test.YtmojlfgfaabegaaA11
namespace Go.Proofs.Ytmojlfgfaabegaa
open Go.RowKit bt

theorem TB_le (p : List Nat) : (TB p).1.length ≤ 4 ∧ ∀ l ∈ (TB p).1, l.length ≤ 32 := by
  unfold TB
  split
  · rename_i h
    split
    · split
      · split
        · refine ⟨by rw [List.length_map, List.length_range]; exact h.2.1.2, fun l hl => ?_⟩
          simp only [List.mem_map] at hl
          obtain ⟨_, _, rfl⟩ := hl
          rw [rowN_len]; omega
        · simp
      · simp
    · simp
  · simp
theorem awake_put : (PB [[300, -1]]).1.length = 41 ∧ (PB [[300, -1]]).2 = 0 := by decide +kernel
theorem awake_take : TB (PB [[300, -1]]).1 = ([[301, -1]], 0) := by decide +kernel
theorem PB_lt (ls : List (List Int)) (h1 : ls.length < 256) : ∀ x ∈ (PB ls).1, x < 256 := by
  unfold PB
  split
  · rename_i h
    refine sm_lt fun x hx => ?_
    rcases List.mem_append.1 hx with h' | h'
    · have h2 := (pr_block.2 h).2.2
      simp only [List.mem_cons, List.not_mem_nil, or_false] at h'
      omega
    · exact payload_lt _ x h'
  · simp
set_option maxRecDepth 100000 in
set_option maxHeartbeats 4000000 in
theorem awake_any (w : World) : Calls Try.prog 12 #[] w fun e w' => e = .returned (.bool true) ∧ Only [] w w' := by
  obtain ⟨hl41, hr0⟩ := awake_put
  have htk := awake_take
  have hlt := PB_lt [[300, -1]] (by decide)
  go_enter Try.func12, Try.ntmps12
  go_wp2_with fail
  have hpcm : PcmIs ((w.alloc (.cells #[.int .i16 300, .int .i16 (-1)] 45)).alloc (.cells #[.slice (some ⟨w.heap.size, 0, none⟩) 2 2] 39)) (some ⟨w.heap.size + 1, 0, none⟩) [(some ⟨w.heap.size, 0, none⟩, 2)] [[300, -1]] := by
    refine ⟨rfl, ?_, fun i h l h1 h2 => ?_, fun i h l h1 h2 => ?_⟩
    · have := Reads.one (w.alloc (.cells #[.int .i16 300, .int .i16 (-1)] 45)) (.slice (some ⟨w.heap.size, 0, none⟩) 2 2) 39
      simpa [rowsV] using this
    · match i, h1, h2 with
      | 0, h1, h2 =>
        simp at h1 h2
        subst h1 h2
        exact (Reads.two w (.int .i16 300) (.int .i16 (-1)) 45).alloc _
    · match i, h1, h2 with
      | 0, h1, h2 =>
        simp at h1 h2
        subst h1 h2
        exact Nat.le_refl 2
  have HO2 := Lib.hid (show Only [] w ((w.alloc (.cells #[.int .i16 300, .int .i16 (-1)] 45)).alloc (.cells #[.slice (some ⟨w.heap.size, 0, none⟩) 2 2] 39)) from ((Only.refl [] w).alloc _).alloc _)
  have HCP := Lib.hid (putBlock_any _ _ 1 _ _ hpcm (by decide) (by intro l hl; simp at hl; subst hl; exact ⟨by decide, by intro x hx; simp at hx; omega⟩))
  clear hpcm
  refine HCP.out.mono ?_
  rintro e w3 ⟨A3, c3, rfl, hr3, o3, hcap3⟩
  rw [hr0]
  generalize (PB [[300, -1]]).1 = P at hl41 htk hlt hr3 hcap3 ⊢
  have HR3 := Lib.hid hr3
  have HO3 := Lib.hid (HO2.out.then o3)
  have HTK := Lib.hid htk
  have HLT := Lib.hid hlt
  have HL := Lib.hid hl41
  clear HCP HO2 hr3 o3 htk hlt hl41 hr0
  go_wp2_with fail
  refine (takeBlock_any _ A3 c3 P HR3.out hcap3 HLT.out (by have := HL.out; omega)).mono ?_
  rintro e w4 ⟨A4, c4, hs, rfl, hp4, hn4, o4⟩
  rw [HTK.out] at hp4 ⊢
  simp only at hp4 ⊢
  obtain ⟨b, off, B, cB, rfl, hc1, hr1, _⟩ := hp4.at_ (i := 0) (l := [301, -1]) rfl
  rw [Nat.add_zero] at hc1
  obtain ⟨b2, off2, rfl, hcc⟩ := hr1.plain (by decide) (by decide)
  have hca := hcc 0 (.int .i16 301) rfl
  have hcb := hcc 1 (.int .i16 (-1)) rfl
  rw [Nat.add_zero] at hca
  rw [HL.out]
  have HO4 := Lib.hid (HO3.out.then o4)
  simp only [List.length_cons, List.length_nil, Nat.zero_add, Nat.reduceAdd] at hc1 ⊢
  clear hp4 hn4 hr1 hcc o4 HO3
  go_wp2_with fail
  go_ret
  exact ⟨rfl, HO4.out⟩
/-- What 'light' says. -/
def lit (ls : List (List Int)) (most : Nat) : Bool := decide (ls.length ≤ 6) && ls.all fun l => decide (l.length ≤ most)
theorem lit_true {ls : List (List Int)} {most : Nat} : lit ls most = true ↔ ls.length ≤ 6 ∧ ∀ l ∈ ls, l.length ≤ most := by
  unfold lit
  simp [List.all_eq_true]
theorem lit_bad {ls : List (List Int)} {most k : Nat} {l : List Int} (hk : ls[k]? = some l) (h : most < l.length) : lit ls most = false := by
  cases hp : lit ls most with
  | false => rfl
  | true => exact absurd ((lit_true.1 hp).2 l (List.mem_of_getElem? hk)) (by omega)
set_option maxHeartbeats 1000000 in
theorem light_any (w : World) (A : Option Addr) (c : Nat) (hs : List (Option Addr × Nat)) (ls : List (List Int)) (h : PcmIs w A hs ls) (mI : Int) (most : Nat) (hmI : mI = (most : Int)) (hn : ls.length ≤ 9223372036854775807) (hm : ∀ l ∈ ls, l.length ≤ 9223372036854775807) :
    Calls Try.prog 20 #[.slice A ls.length c, .int .i64 mI] w fun e w' => e = .returned (.bool (lit ls most)) ∧ w = w' := by
  have HP := Lib.hid h
  have HM := Lib.hid hm
  have HI := Lib.hid hmI
  clear h hm hmI
  go_enter Try.func20, Try.ntmps20
  by_cases h6 : 6 < ls.length
  · have HE := Lib.hid (show lit ls most = false by unfold lit; rw [decide_eq_false (by omega)]; rfl)
    have h6' : (6 : Int) < (ls.length : Int) := by omega
    clear h6
    go_wp2_with fail
    go_ret
    exact ⟨by rw [HE.out]; rfl, rfl⟩
  have h6' : decide ((6 : Int) < (ls.length : Int)) = false := decide_eq_false (by omega)
  have h6'' : ls.length ≤ 6 := by omega
  clear h6
  go_wp2_with fail
  clear h6'
  go_loopw [5] (fun i wr => ∃ k : Nat, k ≤ ls.length ∧ i = .int .i64 (k : Int) ∧ Hid (∀ j l, j < k → ls[j]? = some l → l.length ≤ most) ∧ w = wr) (fun i _ => ls.length - (intOf i).toNat)
  case atStart => exact ⟨0, Nat.zero_le _, rfl, Lib.hid (fun j l hj => by omega), rfl⟩
  case round =>
    obtain ⟨k, hk, rfl, HA, rfl⟩ := hrel
    by_cases hlt : k < ls.length
    · obtain ⟨l, hl⟩ : ∃ l, ls[k]? = some l := ⟨_, List.getElem?_eq_getElem hlt⟩
      obtain ⟨b, off, B, cB, rfl, c1, _, _⟩ := HP.out.at_ hl
      have hki : (k : Int) < (ls.length : Int) := by omega
      have hlm := HM.out l (List.mem_of_getElem? hl)
      have Hl := Lib.hid hl
      clear hl
      by_cases hmo : most < l.length
      · have HE := Lib.hid (lit_bad Hl.out hmo)
        have hmd : mI < (l.length : Int) := by have := HI.out; omega
        clear hmo
        go_wp2_with fail
        go_ret
        exact ⟨by rw [HE.out]; rfl, rfl⟩
      · have HA2 := Lib.hid (show ∀ j m, j < k + 1 → ls[j]? = some m → m.length ≤ most from fun j m hj hm => by
          by_cases hjk : j = k
          · subst hjk; rw [Hl.out] at hm; cases hm; omega
          · exact HA.out j m (by omega) hm)
        have hmd : decide (mI < (l.length : Int)) = false := decide_eq_false (by have := HI.out; omega)
        clear hmo
        go_wp2_with fail
        go_roundw
        case rel => exact ⟨k + 1, by omega, by go_num, HA2, by first | rfl | trivial⟩
        case measure => simp [intOf]; omega
    · have hke : k = ls.length := by omega
      subst hke
      have HE := Lib.hid (show lit ls most = true from lit_true.2 ⟨h6'', fun l hl => by obtain ⟨j, hj⟩ := List.getElem?_of_mem hl; exact HA.out j l ((List.getElem?_eq_some_iff.1 hj).1) hj⟩)
      go_wp2_with fail
      go_ret
      exact ⟨by rw [HE.out]; rfl, rfl⟩
set_option maxRecDepth 100000 in
set_option maxHeartbeats 2000000 in
theorem samePcm_any (w : World) (A B : Option Addr) (c d : Nat) (hs ks : List (Option Addr × Nat)) (ls : List (List Int)) (h : PcmIs w A hs ls) (hB : PcmIs w B ks ls) (hn : ls.length ≤ 1099511627776) (hm : ∀ l ∈ ls, l.length ≤ 1099511627776) :
    Calls Try.prog 19 #[.slice A ls.length c, .slice B ls.length d] w fun e w' => e = .returned (.bool true) ∧ Only [] w w' := by
  have HP := Lib.hid h
  have HQ := Lib.hid hB
  have HM := Lib.hid hm
  clear h hB hm
  go_enter Try.func19, Try.ntmps19
  go_wp2_with fail
  go_loopw [5] (fun i wr => ∃ k : Nat, k ≤ ls.length ∧ i = .int .i64 (k : Int) ∧ Hid (Only [] w wr)) (fun i _ => ls.length - (intOf i).toNat)
  case atStart => exact ⟨0, Nat.zero_le _, rfl, Lib.hid (Only.refl _ _)⟩
  case round =>
    obtain ⟨k, hk, rfl, HO⟩ := hrel
    by_cases hlt : k < ls.length
    · obtain ⟨l, hl⟩ : ∃ l, ls[k]? = some l := ⟨_, List.getElem?_eq_getElem hlt⟩
      obtain ⟨b, off, X, cX, rfl, c1, r1, _⟩ := HP.out.at_ hl
      obtain ⟨b2, off2, Y, cY, rfl, c2, r2, _⟩ := HQ.out.at_ hl
      have hki : (k : Int) < (ls.length : Int) := by omega
      have hlm := HM.out l (List.mem_of_getElem? hl)
      have C1 := Lib.hid c1
      have C2 := Lib.hid c2
      have R1 := Lib.hid r1
      have R2 := Lib.hid r2
      clear hl c1 c2 r1 r2
      have c1 := Cls.cell (show Cls w wr from HO.out) C1.out
      have c2 := Cls.cell (show Cls w wr from HO.out) C2.out
      go_wp2_with fail
      go_region
      all_goals go_wp2_with fail
      go_loopw [6] (fun iv wr => ∃ i : Nat, i ≤ l.length ∧ iv = .int .i64 (i : Int) ∧ Hid (Only [] w wr)) (fun iv _ => l.length - (intOf iv).toNat)
      case atStart => exact ⟨0, Nat.zero_le _, rfl, Lib.hid HO.out.drew⟩
      case round =>
        obtain ⟨i, hi, rfl, HO5⟩ := hrel
        have c1 := Cls.cell (show Cls w wr from HO5.out) C1.out
        have c2 := Cls.cell (show Cls w wr from HO5.out) C2.out
        by_cases hil : i < l.length
        · obtain ⟨x, hx⟩ : ∃ x, l[i]? = some x := ⟨_, List.getElem?_eq_getElem hil⟩
          have hx' : (sV l)[i]? = some (.int .i16 x) := by simp [sV, hx]
          obtain ⟨bX, oX, rfl, hcX⟩ := (R1.out.then HO5.out).plain (by omega) (by omega)
          obtain ⟨bY, oY, rfl, hcY⟩ := (R2.out.then HO5.out).plain (by omega) (by omega)
          have c3 := hcX _ _ hx'
          have c4 := hcY _ _ hx'
          have hid : (i : Int) < (l.length : Int) := by omega
          clear hcX hcY hx hx'
          go_wp2_with fail
          go_region
          all_goals go_wp2_with fail
          go_roundw
          case rel => exact ⟨i + 1, by omega, by go_num, Lib.hid HO5.out.drew⟩
          case measure => simp [intOf]; omega
        · have hie : i = l.length := by omega
          subst hie
          go_wp2_with fail
          go_roundw
          case rel => exact ⟨k + 1, by omega, by go_num, HO5⟩
          case measure => simp [intOf]; omega
    · have hke : k = ls.length := by omega
      subst hke
      go_wp2_with fail
      go_ret
      exact ⟨rfl, HO.out⟩
def iV (l : List Int) : List Value := l.map (Value.int .i64)
set_option maxHeartbeats 1000000 in
theorem sameNumbers_any (w : World) (A B : Option Addr) (c d : Nat) (l : List Int) (h : Reads w A 1 l.length (iV l)) (hB : Reads w B 1 l.length (iV l)) (hn : l.length ≤ 1099511627776) :
    Calls Try.prog 30 #[.slice A l.length c, .slice B l.length d] w fun e w' => e = .returned (.bool true) ∧ Only [] w w' := by
  have R1 := Lib.hid h
  have R2 := Lib.hid hB
  clear h hB
  go_enter Try.func30, Try.ntmps30
  go_wp2_with fail
  go_loopw [5] (fun i wr => ∃ k : Nat, k ≤ l.length ∧ i = .int .i64 (k : Int) ∧ Hid (Only [] w wr)) (fun i _ => l.length - (intOf i).toNat)
  case atStart => exact ⟨0, Nat.zero_le _, rfl, Lib.hid (Only.refl _ _)⟩
  case round =>
    obtain ⟨k, hk, rfl, HO⟩ := hrel
    by_cases hlt : k < l.length
    · obtain ⟨x, hx⟩ : ∃ x, l[k]? = some x := ⟨_, List.getElem?_eq_getElem hlt⟩
      have hx' : (iV l)[k]? = some (.int .i64 x) := by simp [iV, hx]
      obtain ⟨bX, oX, rfl, hcX⟩ := (R1.out.then HO.out).plain (by omega) (by omega)
      obtain ⟨bY, oY, rfl, hcY⟩ := (R2.out.then HO.out).plain (by omega) (by omega)
      have c3 := hcX _ _ hx'
      have c4 := hcY _ _ hx'
      have hki : (k : Int) < (l.length : Int) := by omega
      clear hcX hcY hx hx'
      go_wp2_with fail
      go_region
      all_goals go_wp2_with fail
      go_roundw
      case rel => exact ⟨k + 1, by omega, by go_num, Lib.hid HO.out.drew⟩
      case measure => simp [intOf]; omega
    · have hke : k = l.length := by omega
      subst hke
      go_wp2_with fail
      go_ret
      exact ⟨rfl, HO.out⟩
end Go.Proofs.Ytmojlfgfaabegaa
