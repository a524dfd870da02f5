/- Contracts of vlc.TakeUnsigned, vlc.TakeSigned. -/
import Derived.Test.YtkojnmphgdlmdaaVp
import Derived.Test.YtkojnmphgdlmdaaRo
namespace Go.Proofs.Ytkojnmphgdlmdaa
open Go.RowKit bt

theorem win_one (p : List Nat) (n i : Nat) (h : i < n) : num (window (bitsIn p n) i 1) = (bitAt p i).toNat := by
  have := window_snoc (bitsIn p n) i 0 (bitAt p i) (by rw [Nat.add_zero]; exact bitsIn_get p n i h)
  have e : window (bitsIn p n) i 0 = [] := by simp [window]
  rw [Nat.zero_add, e] at this
  rw [this]
  cases bitAt p i <;> rfl
theorem drop_get (p : List Nat) (n at_ k : Nat) (h : at_ + k < n) : ((bitsIn p n).drop at_)[k]? = some (bitAt p (at_ + k)) := by
  rw [List.getElem?_drop]; exact bitsIn_get p n _ h
theorem drop_len (p : List Nat) (n at_ : Nat) : ((bitsIn p n).drop at_).length = n - at_ := by simp [bitsIn_length]
theorem zrun_eq {m : List Bool} {k : Nat} (h1 : k ≤ zrun m) (h2 : m[k]? = some true) : zrun m = k := by
  rcases Nat.eq_or_lt_of_le h1 with h | h
  · exact h.symm
  · have := zrun_zero m k h; rw [this] at h2; cases h2
theorem zrun_gt {m : List Bool} {k : Nat} (h1 : k ≤ zrun m) (h2 : m[k]? = some false) : k < zrun m := by
  rcases Nat.eq_or_lt_of_le h1 with h | h
  · have hl : zrun m < m.length := by
      rw [h] at h2
      rcases Nat.lt_or_ge (zrun m) m.length with h3 | h3
      · exact h3
      · rw [List.getElem?_eq_none h3] at h2; cases h2
    have := zrun_one m hl
    rw [← h, h2] at this; cases this
  · exact h
theorem shl_num (k r : Nat) (hk : k ≤ 15) (hr : r < 2 ^ k) : (r : Int) < 32768 ∧ wrap64 (wrap64 (wrap64 (2 ^ k) + (r : Int)) - 1) = ((2 ^ k + r - 1 : Nat) : Int) := by
  have hpk : (2 : Nat) ^ k ≤ 2 ^ 15 := Nat.pow_le_pow_right (by omega) hk
  have hp := Nat.two_pow_pos k
  have e : (2 ^ k : Int) = ((2 ^ k : Nat) : Int) := by simp
  rw [e]
  generalize 2 ^ k = q at hpk hp hr
  unfold wrap64
  omega

set_option maxHeartbeats 2000000 in
theorem takeU_any (w : World) (g b : Nat) (p : List Nat) (n at_ : Nat) (h : ReaderIs w g b p n at_) :
    Calls Try.prog 46 #[.pointer (some ⟨g, 0, none⟩)] w fun e w' => e = .returned (.tuple #[.int .i64 (uVal ((bitsIn p n).drop at_) : Int), .int .i64 (uErr ((bitsIn p n).drop at_))]) ∧ ReaderIs w' g b p n (at_ + uLen ((bitsIn p n).drop at_)) ∧ Only [g] w w' := by
  obtain ⟨m, hm⟩ : ∃ m, m = (bitsIn p n).drop at_ := ⟨_, rfl⟩
  rw [← hm]
  have hml : m.length = n - at_ := by rw [hm]; exact drop_len p n at_
  have Hm := Lib.hid hm
  have Hml := Lib.hid hml
  have Hh := Lib.hid h
  have hatn := h.2.2.1
  have hnl := h.2.2.2.1
  have hpl := h.2.2.2.2.1
  have hc0 := h.1.cell 0
  have hc1 := h.1.cell 1
  have hc2 := h.1.cell 2
  simp only [List.getElem?_toArray, List.getElem?_cons_succ, List.getElem?_cons_zero] at hc0 hc1 hc2
  have hgl := h.1.lt
  have hbl := h.2.1.lt
  clear hm hml h
  go_enter Try.func46, Try.ntmps46
  go_wp2_with fail
  have hA : ReaderIs (w.alloc (.cells #[.slice (some ⟨b, 0, none⟩) p.length p.length, .int .i64 (n : Int), .int .i64 (at_ : Int)] 65)) w.heap.size b p n at_ :=
    ⟨Blk.new _ _ _, Hh.out.2.1.alloc _, Hh.out.2.2⟩
  have hB := Hh.out.only ((Only.refl [] w).alloc (.cells #[.slice (some ⟨b, 0, none⟩) p.length p.length, .int .i64 (n : Int), .int .i64 (at_ : Int)] 65)) (by simp) (by simp)
  have ho0 := (Only.refl [] w).alloc (.cells #[.slice (some ⟨b, 0, none⟩) p.length p.length, .int .i64 (n : Int), .int .i64 (at_ : Int)] 65)
  generalize w.alloc (.cells #[.slice (some ⟨b, 0, none⟩) p.length p.length, .int .i64 (n : Int), .int .i64 (at_ : Int)] 65) = w0 at hA hB ho0 ⊢
  clear hc0 hc1 hc2
  go_loopw [5] (fun i wr => ∃ k : Nat, k ≤ 15 ∧ k ≤ zrun m ∧ i = .int .i64 k ∧ ReaderIs wr w.heap.size b p n (at_ + k) ∧ ReaderIs wr g b p n at_ ∧ Only [] w wr) (fun i _ => 16 - (intOf i).toNat)
  case atStart => exact ⟨0, Nat.zero_le _, Nat.zero_le _, rfl, hA, hB, ho0⟩
  case round =>
    obtain ⟨k, hk, hkz, rfl, hA, hB, ho⟩ := hrel
    have hzl := zrun_le m
    by_cases hlt : at_ + k < n
    · have hmk : m[k]? = some (bitAt p (at_ + k)) := by rw [Hm.out]; exact drop_get p n at_ k hlt
      go_wp2_with fail
      refine (take_ok _ _ _ _ _ _ 1 hA (by omega) (by omega)).mono ?_
      rintro e w1 ⟨rfl, hA1, ho1⟩
      rw [win_one p n (at_ + k) hlt]
      have hB1 := hB.only ho1 (by simp; omega) (by simp; omega)
      have hoA : Only [] w w1 := ho.first ho1 (by simp)
      generalize bitAt p (at_ + k) = bt at hmk ⊢
      cases bt with
      | true =>
        have hz := zrun_eq hkz hmk
        have Hz := Lib.hid hz
        clear hz hmk
        by_cases hs : at_ + k + 1 + k ≤ n
        · go_wp2_with fail
          refine (take_ok _ _ _ _ _ _ k hA1 (by omega) (by omega)).mono ?_
          rintro e w2 ⟨rfl, hA2, ho2⟩
          have hwl := window_length (bitsIn p n) (at_ + k + 1) k (by rw [bitsIn_length]; omega)
          have hnum := num_lt (window (bitsIn p n) (at_ + k + 1) k)
          rw [hwl] at hnum
          obtain ⟨s2, s3⟩ := shl_num k _ hk hnum
          have hwin : window (bitsIn p n) (at_ + k + 1) k = (m.drop (zrun m + 1)).take (zrun m) := by
            rw [Hz.out, Hm.out, List.drop_drop]
            unfold window
            rw [Nat.add_assoc]
          have hE : uErr m = 0 := by unfold uErr; rw [Hz.out, if_neg (by omega), if_neg (by have := Hml.out; omega)]
          have hV : uVal m = 2 ^ k + num (window (bitsIn p n) (at_ + k + 1) k) - 1 := by unfold uVal; rw [if_pos hE, hwin, Hz.out]
          have hL : uLen m = 2 * k + 1 := by unfold uLen; rw [if_pos hE, Hz.out]
          have HE := Lib.hid hE
          have HV := Lib.hid hV
          have HL := Lib.hid hL
          have S3 := Lib.hid s3
          clear hwin hE hV hL s3 hwl hnum
          have hB2 := hB1.only ho2 (by simp; omega) (by simp; omega)
          have hc0 := hA2.1.cell 0
          have hc1 := hA2.1.cell 1
          have hc2 := hA2.1.cell 2
          have hd0 := hB2.1.cell 0
          have hd1 := hB2.1.cell 1
          have hd2 := hB2.1.cell 2
          have hf0 := hB2.1.frozen 0
          have hf1 := hB2.1.frozen 1
          have hf2 := hB2.1.frozen 2
          simp only [List.getElem?_toArray, List.getElem?_cons_succ, List.getElem?_cons_zero] at hc0 hc1 hc2 hd0 hd1 hd2
          generalize num (window (bitsIn p n) (at_ + k + 1) k) = rr at s2 S3 HV ⊢
          go_wp2
          go_ret2
          have hset := ((hB2.1.set_ 0 (.slice (some ⟨b, 0, none⟩) p.length p.length)).set_ 1 (.int .i64 (n : Int))).set_ 2 (.int .i64 ((at_ + k + 1 + k : Nat) : Int))
          have hbs := ((hB2.2.1.far (p := ⟨g, 0, none⟩) (Ne.symm hB2.ne) (.slice (some ⟨b, 0, none⟩) p.length p.length)).far (p := ⟨g, 1, none⟩) (Ne.symm hB2.ne) (.int .i64 (n : Int))).far (p := ⟨g, 2, none⟩) (Ne.symm hB2.ne) (.int .i64 ((at_ + k + 1 + k : Nat) : Int))
          have hos : Only [g] w2 (((w2.setCell ⟨g, 0, none⟩ (.slice (some ⟨b, 0, none⟩) p.length p.length)).setCell ⟨g, 1, none⟩ (.int .i64 (n : Int))).setCell ⟨g, 2, none⟩ (.int .i64 ((at_ + k + 1 + k : Nat) : Int))) :=
            (((Only.refl [g] w2).setCell (p := ⟨g, 0, none⟩) (.inl (by simp)) _).setCell (p := ⟨g, 1, none⟩) (.inl (by simp)) _).setCell (p := ⟨g, 2, none⟩) (.inl (by simp)) _
          have hoB : Only [g] w w2 := (hoA.first ho2 (by simp)).mono (by simp)
          have eL : at_ + uLen m = at_ + k + 1 + k := by rw [HL.out]; omega
          refine ⟨?_, ?_, hoB.trans hos (Fresh.refl _ _)⟩
          · rw [HE.out, HV.out, ← S3.out]; rfl
          · rw [eL]
            refine ⟨?_, hbs, by omega, Hh.out.2.2.2⟩
            simpa using hset
        · go_wp2_with fail
          refine (take_short _ _ _ _ _ _ k hA1 (by omega) (by omega)).mono ?_
          rintro e w2 ⟨rfl, rfl⟩
          have hE : uErr m = 4 := by unfold uErr; rw [Hz.out, if_neg (by omega), if_pos (by have := Hml.out; omega)]
          have HE := Lib.hid hE
          clear hE
          go_wp2
          go_ret2
          refine ⟨?_, ?_, (hoA.drew).mono (by simp)⟩
          · unfold uVal; rw [HE.out]; rfl
          · unfold uLen; rw [HE.out]; exact hB1.drew
      | false =>
        have hz := zrun_gt hkz hmk
        clear hmk
        by_cases hk15 : k = 15
        · subst hk15
          have hE : uErr m = 3 := by unfold uErr; rw [if_pos (by omega)]
          have HE := Lib.hid hE
          clear hE
          go_wp2
          go_ret2
          refine ⟨?_, ?_, hoA.mono (by simp)⟩
          · unfold uVal; rw [HE.out]; rfl
          · unfold uLen; rw [HE.out]; exact hB1
        · have hkb : ((k : Int) == 15) = false := beq_eq_false_iff_ne.2 (by omega)
          go_wp2
          go_roundw
          case rel => exact ⟨k + 1, by omega, by omega, by go_num, hA1, hB1, hoA⟩
          case measure => simp [intOf]; omega
    · go_wp2_with fail
      refine (take_short _ _ _ _ _ _ 1 hA (by omega) (by omega)).mono ?_
      rintro e w1 ⟨rfl, rfl⟩
      have hE : uErr m = 4 := by
        have := Hml.out
        have hz : zrun m = k := by omega
        unfold uErr; rw [hz, if_neg (by omega), if_pos (by omega)]
      have HE := Lib.hid hE
      clear hE
      go_wp2
      go_ret2
      refine ⟨?_, ?_, (ho.drew).mono (by simp)⟩
      · unfold uVal; rw [HE.out]; rfl
      · unfold uLen; rw [HE.out]; exact hB.drew
theorem takeU_nil (w : World) : Calls Try.prog 46 #[.pointer none] w fun e w' => e = .returned (.tuple #[.int .i64 0, .int .i64 1]) ∧ w = w' := by
  go_enter Try.func46, Try.ntmps46
  go_wp2
  go_ret2
  exact ⟨rfl, rfl⟩
theorem uVal_lt (m : List Bool) : uVal m ≤ 65534 := by
  unfold uVal
  split
  · rename_i h
    have hz : zrun m < 16 := by
      unfold uErr at h
      split at h
      · cases h
      · omega
    have h1 := num_lt ((m.drop (zrun m + 1)).take (zrun m))
    have h2 : ((m.drop (zrun m + 1)).take (zrun m)).length ≤ zrun m := List.length_take_le _ _
    have h3 : 2 ^ ((m.drop (zrun m + 1)).take (zrun m)).length ≤ 2 ^ zrun m := Nat.pow_le_pow_right (by omega) h2
    have h4 : 2 ^ zrun m ≤ 2 ^ 15 := Nat.pow_le_pow_right (by omega) (by omega)
    omega
  · omega
theorem uErr_range (m : List Bool) : uErr m = 0 ∨ uErr m = 3 ∨ uErr m = 4 := by unfold uErr; split; simp; split <;> simp
/-- What TakeSigned returns as a number. -/
def sTake (m : List Bool) : Int := if uErr m = 0 then sVal (uVal m) else 0

theorem takeS_any (w : World) (g b : Nat) (p : List Nat) (n at_ : Nat) (h : ReaderIs w g b p n at_) :
    Calls Try.prog 47 #[.pointer (some ⟨g, 0, none⟩)] w fun e w' => e = .returned (.tuple #[.int .i64 (sTake ((bitsIn p n).drop at_)), .int .i64 (uErr ((bitsIn p n).drop at_))]) ∧ ReaderIs w' g b p n (at_ + uLen ((bitsIn p n).drop at_)) ∧ Only [g] w w' := by
  obtain ⟨m, hm⟩ : ∃ m, m = (bitsIn p n).drop at_ := ⟨_, rfl⟩
  have hu := takeU_any w g b p n at_ h
  rw [← hm] at hu ⊢
  have HU := Lib.hid hu
  clear hm h hu
  have hlt := uVal_lt m
  by_cases hE : uErr m = 0
  · have hEb : (uErr m != 0) = false := by simpa using hE
    have hS : sTake m = sVal (uVal m) := by unfold sTake; rw [if_pos hE]
    rw [hS]
    have HE := Lib.hid hE
    clear hS hE
    generalize uVal m = x at HU hlt ⊢
    by_cases hx : x % 2 = 1
    · have hxb : ((x : Int) % 2 == 1) = true := by simp; omega
      have hv : sVal x = ((x : Int) + 1) / 2 := by unfold sVal; rw [if_pos hx]
      have Hv := Lib.hid hv
      clear hv hx
      go_enter Try.func47, Try.ntmps47
      go_wp2_with fail
      refine HU.out.mono ?_
      rintro e w1 ⟨rfl, hr1, ho1⟩
      go_wp2_with fail
      go_ret2
      refine ⟨?_, hr1, ho1⟩
      rw [Hv.out, HE.out]; rfl
    · have hxb : ((x : Int) % 2 == 1) = false := beq_eq_false_iff_ne.2 (by omega)
      have hv : sVal x = -((x : Int) / 2) := by unfold sVal; rw [if_neg hx]
      have Hv := Lib.hid hv
      clear hv hx
      go_enter Try.func47, Try.ntmps47
      go_wp2_with fail
      refine HU.out.mono ?_
      rintro e w1 ⟨rfl, hr1, ho1⟩
      go_wp2_with fail
      go_ret2
      refine ⟨?_, hr1, ho1⟩
      rw [Hv.out, HE.out]; rfl
  · have hEb : (uErr m != 0) = true := by simpa using hE
    have hS : sTake m = 0 := by unfold sTake; rw [if_neg hE]
    rw [hS]
    clear hS hE
    go_enter Try.func47, Try.ntmps47
    go_wp2_with fail
    refine HU.out.mono ?_
    rintro e w1 ⟨rfl, hr1, ho1⟩
    go_wp2_with fail
    go_ret2
    exact ⟨rfl, hr1, ho1⟩
theorem takeS_nil (w : World) : Calls Try.prog 47 #[.pointer none] w fun e w' => e = .returned (.tuple #[.int .i64 0, .int .i64 1]) ∧ w = w' := by
  go_enter Try.func47, Try.ntmps47
  go_wp2_with fail
  refine (takeU_nil _).mono ?_
  rintro e w1 ⟨rfl, rfl⟩
  go_wp2_with fail
  go_ret2
  exact ⟨rfl, rfl⟩
end Go.Proofs.Ytkojnmphgdlmdaa
