/- Proved: BlockUnique returns true for all its arguments, which read afterwards as before. No condition. -/
import Derived.Test.YtkojnmphgdlmdaaB12
import Derived.Test.YtkojnmphgdlmdaaRow
namespace Go.Proofs.Ytkojnmphgdlmdaa.blockUnique
open Go.ChangeShapes Go.WideShapes Go.ChangeAt Go.RowKit bt

theorem writer_off {w w' : World} {g k : Nat} {F : List Nat} {l : List Bool} (h : WriterIs w g F l) (ho : Only [k] w w') (hk : k ∉ F) : WriterIs w' g F l := by
  obtain ⟨A, c, hb, hown, rfl⟩ := h
  refine ⟨A, c, hb.only ho (by simp at hk ⊢; exact fun e => hk.1 e.symm), own_only hown ho (fun j hj => ?_), rfl⟩
  simp at hk ⊢
  exact fun e => hk.2 (e ▸ hj)
set_option maxRecDepth 100000 in
set_option maxHeartbeats 4000000 in
theorem walk (w : World) (A : Option Addr) (c : Nat) (p : List Nat) (hr : Reads w A 1 p.length (bytesV p)) (_hm : p.length ≤ maxLen) (hp : ∀ x ∈ p, x < 256) (f : Int) (_hf : -9223372036854775808 ≤ f ∧ f ≤ 9223372036854775807) :
    Calls Try.prog 6 #[.slice A p.length c, .int .i64 f] w fun e w' => e = .returned (.bool true) ∧ Only [] w w' := by
  have Hr := Lib.hid hr
  have Hp := Lib.hid hp
  clear hr hp
  go_enter Try.func6, Try.ntmps6
  by_cases hn : p.length ≤ 500
  · have hd0 : decide ((500 : Int) < (p.length : Int)) = false := decide_eq_false (by omega)
    go_wp2_with fail
    clear hd0
    by_cases hl : p.getLastD 0 = 0
    · refine (newReader_none _ _ _ _ p Hr.out (by omega) hl).mono ?_
      rintro e w1 ⟨rfl, rfl⟩
      clear hl
      go_wp2_with fail
      refine (awake_any _).mono ?_
      rintro e w1 ⟨rfl, ho1⟩
      go_wp2_with fail
      go_ret
      exact ⟨rfl, ho1⟩
    · refine (newReader_some _ _ _ _ p Hr.out (by omega) Hp.out hl).mono ?_
      rintro e w1 ⟨rfl, hr1, ho1⟩
      have Hl := Lib.hid hl
      clear hl
      generalize hG : w.heap.size + 1 = gr at hr1
      generalize hW : w.heap.size = w0 at hr1 hG
      have hww : w.heap.size ≤ gr := by omega
      have hbits := bitsIn_length p (nBits p)
      obtain ⟨R, hR⟩ : ∃ R, TR f ((bitsIn p (nBits p)).drop 0) = R := ⟨_, rfl⟩
      have HR := Lib.hid hR
      clear hR hG
      go_wp2_with fail
      refine (btake_any _ gr w0 p (nBits p) 0 hr1 f R HR.out).mono ?_
      rintro e w2 ⟨hcase, o2⟩
      have ho2 : Only [] w w2 := ho1.first o2 (by simp; omega)
      clear hr1 ho1 o2
      rcases hcase with ⟨hR0, rfl, hRd⟩ | ⟨hR0, rfl, at1, hRd⟩
      · obtain ⟨u1, u2, u3⟩ := uniqL HR.out hR0
        rw [List.drop_zero] at u2 u3
        rw [hbits] at u3
        rw [Nat.zero_add] at hRd
        obtain ⟨x, hx⟩ : ∃ x, R.2.1 = x := ⟨_, rfl⟩
        obtain ⟨n2, hn2⟩ : ∃ n2, R.2.2 = n2 := ⟨_, rfl⟩
        rw [hx] at u1 u2 ⊢
        rw [hn2] at u2 u3 hRd
        have U1 := Lib.hid u1
        have U2 := Lib.hid u2
        have HRd2 := Lib.hid hRd
        have hlen2 : (bOut x f).length = n2 := by rw [u2, List.length_take, hbits]; omega
        have Hlen2 := Lib.hid hlen2
        have hn8 : nBits p < 8 * p.length := hRd.2.2.2.1
        clear u1 u2 hRd hR0 HR hx hn2 hlen2
        have tok : True := trivial
        have tok2 : True := trivial
        go_wp2_with (first | (clear tok; refine al64 rfl rfl ?_; rintro g3 w3 b3 o3 l3) | (clear tok2; refine sr64 (y := x) b3 rfl rfl rfl rfl ?_; rintro w4 b4 o4 l4))
        have o24 := Only.own o3 o4 l3
        have HRd4 := Lib.hid (HRd2.out.only o24 (by simp) (by simp))
        have ho4 := ho2.then o24
        clear o3 o4 b3 HRd2 ho2 o24
        refine (newWriter_any _).mono ?_
        rintro e w5 ⟨rfl, hw5, o5⟩
        generalize hgw : w4.heap.size = gw
        rw [hgw] at hw5
        have hg34 : g3 < w4.heap.size := b4.lt
        have hgr4 : gr < w4.heap.size ∧ w0 < w4.heap.size := ⟨HRd4.out.1.lt, HRd4.out.2.1.lt⟩
        have hsw : w.heap.size ≤ gw := by have := ho4.size; omega
        have hgs : g3 < gw ∧ gr < gw ∧ w0 < gw := by omega
        have b5 := b4.only o5 (by simp)
        have HRd5 := Lib.hid (HRd4.out.only o5 (by simp) (by simp))
        have ho5 := ho4.then o5
        have HW5 := Lib.hid hw5
        clear hw5 hgw o5 b4 ho4 HRd4 hg34 hgr4
        have tok : True := trivial
        go_wp2_with (clear tok; refine ld64 (x := x) b5 rfl rfl rfl ?_)
        refine (bput_any _ gw [gw] [] x f HW5.out (by simp)).mono ?_
        rintro e w6 ⟨rfl, F6, hw6, o6, f6⟩
        rw [List.nil_append] at hw6
        rw [U1.out]
        have HRd6 := Lib.hid (HRd5.out.only o6 (by simp; omega) (by simp; omega))
        have ho6 : Only [] w w6 := ho5.first o6 (by simp; omega)
        have hF6 : ∀ k ∈ F6, w.heap.size ≤ k := fun k hk => by
          rcases f6 k hk with h | h
          · simp at h; omega
          · have := ho5.size; omega
        have HF6 := Lib.hid hF6
        have HW6 := Lib.hid hw6
        clear hw6 o6 f6 HW5 HRd5 ho5 b5 hF6
        have hbo : (bOut x f).length ≤ 4000 := by have := Hlen2.out; omega
        obtain ⟨bo, hboe⟩ : ∃ bo, bOut x f = bo := ⟨_, rfl⟩
        rw [hboe] at HW6 Hlen2 U2 hbo
        clear hboe
        have hle2 := Hlen2.out
        clear Hlen2
        subst hle2
        go_wp2_with fail
        refine (len_any _ gw F6 bo HW6.out).mono ?_
        rintro e w7 ⟨rfl, rfl⟩
        go_wp2_with fail
        refine (at_any _ gr w0 p (nBits p) bo.length HRd6.out).mono ?_
        rintro e w7 ⟨rfl, rfl⟩
        go_wp2_with fail
        refine (newReader_some _ _ _ _ p (Hr.out.then ho6) (by omega) Hp.out Hl.out).mono ?_
        rintro e w8 ⟨rfl, hr8, o8⟩
        generalize hG8 : w6.heap.size + 1 = gs at hr8
        generalize hW8 : w6.heap.size = ws at hr8 hG8
        have hs6 : w.heap.size ≤ ws := by have := ho6.size; omega
        have HW8 := Lib.hid (writer_keep HW6.out o8)
        have ho8 := ho6.then o8
        have HS8 := Lib.hid hr8
        have hFs : gs ∉ F6 ∧ ws ∉ F6 := ⟨fun h => by have := writer_lt HW6.out gs h; omega, fun h => by have := writer_lt HW6.out ws h; omega⟩
        have HFs := Lib.hid hFs
        clear hr8 o8 HW6 ho6 HRd6 hW8 hFs
        go_wp2_with fail
        refine (payload_any _ _ _ _ HW8.out (by omega)).mono ?_
        rintro e w9 ⟨rfl, hp9, o9⟩
        have HW9 := Lib.hid (writer_keep HW8.out o9)
        have HS9 := Lib.hid (HS8.out.only o9 (by simp) (by simp))
        have ho9 := ho8.then o9
        have Hp9 := Lib.hid (payload_reads hp9)
        clear hp9 o9 HW8 HS8 ho8
        go_wp2_with fail
        refine (newReader_payload _ _ _ bo Hp9.out (by omega)).mono ?_
        rintro e w10 ⟨rfl, hr10, o10⟩
        generalize hG10 : w9.heap.size + 1 = gt at hr10
        generalize hW10 : w9.heap.size = wt at hr10 hG10
        have hs9 : gs < w9.heap.size ∧ ws < w9.heap.size := ⟨HS9.out.1.lt, HS9.out.2.1.lt⟩
        have hst : gs ≠ gt ∧ ws ≠ gt ∧ gs ≠ wt ∧ ws ≠ wt := by omega
        have hsz9 : w.heap.size ≤ w9.heap.size := ho9.size
        have hgt : w.heap.size ≤ gt ∧ w.heap.size ≤ gs := by omega
        have hFt : gt ∉ F6 := fun h => by have := writer_lt HW9.out gt h; omega
        have HW10 := Lib.hid (writer_keep HW9.out o10)
        have HS10 := Lib.hid (HS9.out.only o10 (by simp) (by simp))
        have HT10 := Lib.hid hr10
        have HO10 := Lib.hid (ho9.then o10)
        have HFt := Lib.hid hFt
        clear hr10 o10 HW9 HS9 ho9 Hp9 hG10 hW10 hs9 hsz9 hFt hG8
        go_wp2_with fail
        go_loopw [14] (fun i wr => ∃ k : Nat, k ≤ bo.length ∧ i = .int .i64 (k : Int) ∧ Hid (WriterIs wr gw F6 bo) ∧ Hid (ReaderIs wr gs ws p (nBits p) k) ∧ Hid (ReaderIs wr gt wt (payload bo) bo.length k) ∧ Hid (Only [] w wr)) (fun i _ => bo.length - (intOf i).toNat)
        case atStart => exact ⟨0, Nat.zero_le _, rfl, HW10, HS10, HT10, HO10⟩
        case round =>
          obtain ⟨k, hk, rfl, HWk, HSk, HTk, HOk⟩ := hrel
          go_wp2_with fail
          refine (len_any _ gw F6 bo HWk.out).mono ?_
          rintro e w11 ⟨rfl, rfl⟩
          by_cases hlt : k < bo.length
          · have hkd : (k : Int) < (bo.length : Int) := by omega
            have e1 := take1_at (n := nBits p) (at_ := k) (by omega)
            have e2 := take1_at (n := bo.length) (at_ := k) (by omega)
            have e3 := take1_same (l := bitsIn p (nBits p)) (k := bo.length) hlt (by rw [hbits]; exact u3)
            rw [← U2.out] at e3
            have hv1 := takeVal_le (bitsIn p (nBits p)) k
            have E1 := Lib.hid e1
            have E2 := Lib.hid e2
            have E3 := Lib.hid e3
            clear e1 e2 e3
            go_wp2_with fail
            refine (take_any _ gs ws p (nBits p) k 1 HSk.out).mono ?_
            rintro e w12 ⟨rfl, hs12, o12⟩
            rw [E1.out] at hs12
            have HT12 := Lib.hid (HTk.out.only o12 (by simp; omega) (by simp; omega))
            have HO12 := Lib.hid (HOk.out.first o12 (by simp; omega))
            have HW12 := Lib.hid (writer_off HWk.out o12 (by simpa using HFs.out.1))
            have HS12 := Lib.hid hs12
            generalize takeVal (bitsIn p (nBits p)) k 1 = tv at hv1 E3 ⊢
            generalize takeErr (nBits p) k 1 = te
            clear hs12 o12 HSk HTk HOk HWk
            go_wp2_with fail
            refine (take_any _ gt wt (payload bo) bo.length k 1 HT12.out).mono ?_
            rw [bitsIn_payload, E3.out, E2.out]
            rintro e w13 ⟨rfl, ht13, o13⟩
            have HS13 := Lib.hid (HS12.out.only o13 (by simp; omega) (by simp; omega))
            have HO13 := Lib.hid (HO12.out.first o13 (by simp; omega))
            have HW13 := Lib.hid (writer_off HW12.out o13 (by simpa using HFt.out))
            have HT13 := Lib.hid ht13
            generalize takeErr bo.length k 1 = te2
            clear ht13 o13 HS12 HT12 HO12 HW12
            go_wp2_with fail
            go_roundw
            case rel => exact ⟨k + 1, by omega, by go_num, HW13, HS13, HT13, HO13⟩
            case measure => simp [intOf]; omega
          · have hkd : (bo.length : Int) ≤ (k : Int) := by omega
            go_wp2_with fail
            refine (awake_any _).mono ?_
            rintro e w12 ⟨rfl, o12⟩
            go_wp2_with fail
            go_ret
            exact ⟨rfl, HOk.out.then o12⟩
      · have hrn : (R.1 != 0) = true := by simpa using hR0
        have tok : True := trivial
        have tok2 : True := trivial
        clear hR0 hRd HR
        go_wp2_with (first | (clear tok; refine al64 rfl rfl ?_; rintro g3 w3 b3 o3 l3) | (clear tok2; refine sr64 (y := z64) b3 rfl rfl rfl rfl ?_; rintro w4 b4 o4 l4))
        refine (awake_any _).mono ?_
        rintro e w5 ⟨rfl, o5⟩
        go_wp2_with fail
        go_ret
        exact ⟨rfl, (ho2.then (Only.own o3 o4 l3)).then o5⟩
  · have hd0 : decide ((500 : Int) < (p.length : Int)) = true := decide_eq_true (by omega)
    go_wp2_with fail
    go_ret
    exact ⟨rfl, Only.refl _ _⟩
end Go.Proofs.Ytkojnmphgdlmdaa.blockUnique
