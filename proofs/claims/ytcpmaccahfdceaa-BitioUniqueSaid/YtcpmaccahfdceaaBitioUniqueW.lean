/- Proved: BitioUnique returns true for all bytes; its argument reads afterwards as before. No condition. -/
import Derived.Test.YtcpmaccahfdceaaRn
import Derived.Test.YtcpmaccahfdceaaRow
import Derived.Deep.LoopGhost
namespace Go.Proofs.Ytcpmaccahfdceaa.bitioUnique
open Go.ChangeShapes Go.WideShapes Go.ChangeAt Go.RowKit bt

theorem bitsIn_snoc (p : List Nat) (i : Nat) : bitsIn p (i + 1) = bitsIn p i ++ [bitAt p i] := by
  unfold bitsIn; rw [List.range_succ, List.map_append]; rfl
theorem window_one (p : List Nat) (n i : Nat) (h : i < n) : num (window (bitsIn p n) i 1) = (bitAt p i).toNat := by
  have := window_snoc (bitsIn p n) i 0 (bitAt p i) (by rw [Nat.add_zero]; exact bitsIn_get p n i h)
  have e : window (bitsIn p n) i 0 = [] := by simp [window]
  rw [Nat.zero_add, e] at this
  rw [this]
  cases bitAt p i <;> rfl
theorem bits_one (b : Bool) : bitsOf b.toNat 1 = [b] := by cases b <;> rfl

set_option maxHeartbeats 2000000 in
theorem walk (w : World) (A : Option Addr) (c : Nat) (p : List Nat) (hr : Reads w A 1 p.length (bytesV p)) (hm : p.length ≤ maxLen) (hp : ∀ x ∈ p, x < 256) :
    Calls Try.prog 4 #[.slice A p.length c] w fun e w' => e = .returned (.bool true) ∧ Only [] w w' := by
  unfold maxLen at hm
  by_cases hn : p.length ≤ 500
  · have hd0 : decide ((500 : Int) < (p.length : Int)) = false := by simp; omega
    by_cases hl : p.getLastD 0 = 0
    · have Hr := Lib.hid hr
      have Hl := Lib.hid hl
      by_cases h0 : p.length = 0
      · have hz : ((p.length : Int) == 0) = true := beq_iff_eq.2 (by omega)
        clear hr hp hl h0
        go_enter Try.func4, Try.ntmps4
        go_wp2_with fail
        refine (newReader_none _ _ _ _ p Hr.out (by omega) Hl.out).mono ?_
        rintro e w1 ⟨rfl, rfl⟩
        go_wp2_with fail
        refine (awake_any _).mono ?_
        rintro e w1 ⟨rfl, ho1⟩
        go_wp2_with fail
        go_ret
        exact ⟨rfl, ho1⟩
      · have hz : ((p.length : Int) == 0) = false := beq_eq_false_iff_ne.2 (by omega)
        have hlt : (p.length : Int) - 1 < (p.length : Int) := by omega
        have hge : (0 : Int) ≤ (p.length : Int) - 1 := by omega
        have e : ((p.length : Int) - 1).toNat = p.length - 1 := by omega
        obtain ⟨b, off, rfl, hc⟩ := hr.plain (by omega) (by omega)
        have hx : (bytesV p)[p.length - 1]? = some (.int .u8 0) := by
          simp only [bytesV, List.getElem?_map]
          rw [List.getLastD_eq_getLast?, List.getLast?_eq_getElem?] at hl
          rw [List.getElem?_eq_getElem (by omega)] at hl ⊢
          simp at hl ⊢
          exact hl
        have hc0 := hc _ _ hx
        have hpos : 0 < p.length := by omega
        clear hr hp hl h0 hc hx
        go_enter Try.func4, Try.ntmps4
        go_wp2_with fail
        refine (newReader_none _ _ _ _ p Hr.out (by omega) Hl.out).mono ?_
        rintro e' w1 ⟨rfl, rfl⟩
        go_wp2_with fail
        refine (awake_any _).mono ?_
        rintro e' w1 ⟨rfl, ho1⟩
        have hc1 := (ho1.cell (p := ⟨b, off + (p.length - 1), none⟩) (World.block_lt_of_cell? _ _ hc0) (by simp)).trans hc0
        clear hc0
        go_wp2_with fail
        go_ret
        exact ⟨rfl, ho1⟩
    · have Hr := Lib.hid hr
      have Hl := Lib.hid hl
      have Hp := Lib.hid hp
      have hnl : nBits p ≤ 8 * p.length := by unfold nBits; omega
      clear hr hp hl
      have hd1 : decide (8 * (p.length : Int) < (nBits p : Int)) = false := by simp; omega
      go_enter Try.func4, Try.ntmps4
      go_wp2_with fail
      refine (newReader_some _ _ _ _ p Hr.out (by omega) Hp.out Hl.out).mono ?_
      rintro e w1 ⟨rfl, hr1, ho1⟩
      go_wp2_with fail
      refine (newWriter_any _).mono ?_
      rintro e w2 ⟨rfl, hw2, ho2⟩
      have hr2 := hr1.only ho2 (by simp) (by simp)
      have hg1 : w.heap.size + 1 < w1.heap.size := hr1.1.lt
      go_wp2_with fail
      refine (left_any _ _ _ _ _ _ hr2).mono ?_
      rintro e w3 ⟨rfl, rfl⟩
      have e0 : (nBits p : Int) - ((0 : Nat) : Int) = (nBits p : Int) := by omega
      rw [e0]
      have ho02 : Only [] w w2.drew := (ho1.then ho2).drew
      have hr3 := hr2.drew
      have hw3 := hw2.then ((Only.refl [] w2).drew)
      generalize w2.drew = w3 at ho02 hr3 hw3 ⊢
      clear hr1 ho1 hw2 ho2 hr2 e0
      go_wp2_with fail
      clear hd0 hd1
      go_loopg [6] (nBits p) (fun gk _ wr => ∃ i F, i ≤ nBits p ∧ gk = nBits p - i ∧ ReaderIs wr (w.heap.size + 1) w.heap.size p (nBits p) i ∧ WriterIs wr w1.heap.size F (bitsIn p i) ∧ Hid (∀ x ∈ F, w1.heap.size ≤ x) ∧ Only [] w wr)
      case atStart => exact ⟨0, _, Nat.zero_le _, by omega, hr3, hw3, show ∀ _, _ by simp, ho02⟩
      case round =>
        obtain ⟨i, F, hi, hgk, hrd, hw, HF, ho⟩ := hrel
        have Hgk := Lib.hid hgk
        clear hgk
        by_cases hlt : i < nBits p
        · have hgt : decide ((0 : Int) < (nBits p : Int) - (i : Int)) = true := by simp; omega
          go_wp2_with fail
          refine (left_any _ _ _ _ _ _ hrd).mono ?_
          rintro e w4 ⟨rfl, rfl⟩
          go_wp2_with fail
          refine (left_any _ _ _ _ _ _ hrd.drew).mono ?_
          rintro e w4 ⟨rfl, rfl⟩
          go_wp2_with fail
          refine (take_ok _ _ _ _ _ _ 1 hrd.drew.drew (by omega) (by omega)).mono ?_
          rintro e w5 ⟨rfl, hrd5, ho5⟩
          rw [window_one p (nBits p) i hlt]
          have hg : ∀ x ∈ F, x ∉ [w.heap.size + 1] := by intro x hx; have := HF.out x hx; simp; omega
          have hw5 := (hw.then ((Only.refl [] wr).drew.drew)).only ho5 hg
          have hv2 : (bitAt p i).toNat < 2 ^ 1 := by cases bitAt p i <;> decide
          have hbl := bitsIn_length p i
          go_wp2_with fail
          refine (put_ok _ _ _ _ (bitAt p i).toNat 1 hw5 (by omega) hv2 (by omega)).mono ?_
          rintro e w6 ⟨rfl, F6, hw6, ho6, hf6⟩
          have hrd6 := hrd5.only ho6 (by intro h; have := HF.out _ h; omega) (by intro h; have := HF.out _ h; omega)
          have heq : (((nBits p : Int) - ((i + 1 : Nat) : Int)) != ((nBits p : Int) - (i : Int) - 1)) = false := by rw [bne_eq_false_iff_eq]; omega
          clear hg hv2 hbl
          go_wp2_with fail
          refine (left_any _ _ _ _ _ _ hrd6).mono ?_
          rintro e w7 ⟨rfl, rfl⟩
          go_wp2_with fail
          go_roundg (nBits p - (i + 1))
          case measure => have := Hgk.out; omega
          case rel =>
            refine ⟨i + 1, F6, by omega, rfl, hrd6.drew, ?_, ?_, ?_⟩
            · rw [bitsIn_snoc, ← bits_one (bitAt p i)]; exact hw6.then ((Only.refl [] _).drew)
            · show ∀ _, _
              intro x hx
              rcases hf6 x hx with h | h
              · exact HF.out x h
              · have h1 := ho5.size
                have h2 := hw5.lt w1.heap.size
                have := hw.lt _ (by obtain ⟨_, _, _, _, rfl⟩ := hw; simp : w1.heap.size ∈ F)
                simp at h1; omega
            · exact (((ho.drew).drew).first ho5 (by simp)).first ho6 (by intro x hx; have := HF.out x hx; omega) |>.drew
        · obtain rfl : i = nBits p := by omega
          have hgt : decide ((0 : Int) < (nBits p : Int) - (nBits p : Int)) = false := by simp
          go_wp2_with fail
          refine (left_any _ _ _ _ _ _ hrd).mono ?_
          rintro e w4 ⟨rfl, rfl⟩
          go_wp2_with fail
          refine (awake_any _).mono ?_
          rintro e w5 ⟨rfl, ho5⟩
          have hw5 := (hw.then ((Only.refl [] wr).drew)).then ho5
          have hbl := bitsIn_length p (nBits p)
          have Hbl := Lib.hid hbl
          clear hbl
          go_wp2_with fail
          refine (payload_any _ _ _ _ hw5 (by have := Hbl.out; omega)).mono ?_
          rintro e w6 ⟨rfl, hp6, ho6⟩
          have hpr := payload_reads hp6
          have ho06 := ((ho.drew).then ho5).then ho6
          go_wp2_with fail
          refine (same_any _ _ _ _ _ _ _ (payload (bitsIn p (nBits p))) p hpr (Hr.out.then ho06) (payload_lt _) Hp.out).mono ?_
          rintro e w7 ⟨rfl, rfl⟩
          rw [payload_unique p Hp.out Hl.out]
          go_wp2_with fail
          go_ret
          refine ⟨?_, ho06⟩
          simp
  · have hd0 : decide ((500 : Int) < (p.length : Int)) = true := by simp; omega
    clear hn
    go_enter Try.func4, Try.ntmps4
    go_wp2
    go_ret
    exact ⟨rfl, Only.refl _ _⟩
end Go.Proofs.Ytcpmaccahfdceaa.bitioUnique
