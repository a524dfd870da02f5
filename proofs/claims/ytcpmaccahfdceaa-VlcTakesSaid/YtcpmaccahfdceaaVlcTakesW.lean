/- Proved: VlcTakes returns true for all its arguments, which read afterwards as before. No condition. -/
import Derived.Test.YtcpmaccahfdceaaVr
import Derived.Test.YtcpmaccahfdceaaVu
import Derived.Test.YtcpmaccahfdceaaRow
namespace Go.Proofs.Ytcpmaccahfdceaa.vlcTakes
open Go.ChangeShapes Go.WideShapes Go.ChangeAt Go.RowKit bt

set_option maxHeartbeats 2000000 in
theorem walk (w : World) (A : Option Addr) (c : Nat) (p : List Nat) (hr : Reads w A 1 p.length (bytesV p)) (hm : p.length ≤ maxLen) (hp : ∀ x ∈ p, x < 256)
    (B : Option Addr) (d : Nat) (t : List Bool) (hr' : Reads w B 1 t.length (t.map Value.bool)) (hm' : t.length ≤ maxLen) :
    Calls Try.prog 13 #[.slice A p.length c, .slice B t.length d] w fun e w' => e = .returned (.bool true) ∧ Only [] w w' := by
  unfold maxLen at hm hm'
  by_cases hn : p.length ≤ 300
  · have hd0 : decide ((300 : Int) < (p.length : Int)) = false := by simp; omega
    by_cases hn' : t.length ≤ 300
    · have hd1 : decide ((300 : Int) < (t.length : Int)) = false := by simp; omega
      have Hr := Lib.hid hr
      have Hr' := Lib.hid hr'
      have Hp := Lib.hid hp
      clear hr hr' hp
      by_cases hl : p.getLastD 0 = 0
      · have Hl := Lib.hid hl
        clear hl
        go_enter Try.func13, Try.ntmps13
        go_wp2_with fail
        refine (newReader_none _ _ _ _ p Hr.out (by omega) Hl.out).mono ?_
        rintro e w1 ⟨rfl, rfl⟩
        go_wp2_with fail
        refine (refOpen_none _ _ _ _ p Hr.out (by omega) Hl.out).mono ?_
        rintro e w1 ⟨rfl, rfl⟩
        go_wp2_with fail
        refine (awakeV_any _).mono ?_
        rintro e w1 ⟨rfl, ho1⟩
        go_wp2_with fail
        go_ret
        exact ⟨rfl, ho1⟩
      · have Hl := Lib.hid hl
        clear hl
        go_enter Try.func13, Try.ntmps13
        go_wp2_with fail
        refine (newReader_some _ _ _ _ p Hr.out (by omega) Hp.out Hl.out).mono ?_
        rintro e w1 ⟨rfl, hr1, ho1⟩
        go_wp2_with fail
        refine (refOpen_some _ _ _ _ p (Hr.out.then ho1) (by omega) Hp.out Hl.out).mono ?_
        rintro e w2 ⟨g, b, cc, rfl, hs2, ho2, hg, hb⟩
        have hr2 := hr1.only ho2 (by simp) (by simp)
        have hgs : w.heap.size ≤ w1.heap.size := ho1.size
        have hg1 : w.heap.size + 1 < w1.heap.size := hr1.1.lt
        have hbl : w.heap.size + 1 ≠ g ∧ w.heap.size + 1 ≠ b ∧ w.heap.size ≠ g ∧ w.heap.size ≠ b := by omega
        have ho02 := ho1.then ho2
        go_wp2_with fail
        clear hr1 ho1 ho2 hd0 hd1
        go_loopw [9] (fun i wr => ∃ k : Nat, k ≤ t.length ∧ i = .int .i64 k ∧ ∃ at_, ReaderIs wr (w.heap.size + 1) w.heap.size p (nBits p) at_ ∧ RefIs wr g b cc (bitsIn p (nBits p)) at_ ∧ Only [] w wr) (fun i _ => t.length - (intOf i).toNat)
        case atStart => exact ⟨0, Nat.zero_le _, rfl, 0, hr2, hs2, ho02⟩
        case round =>
          obtain ⟨k, hk, rfl, at_, hrd, hrf, ho⟩ := hrel
          by_cases hlt : k < t.length
          · obtain ⟨z, hz⟩ : ∃ z, t[k]? = some z := ⟨_, List.getElem?_eq_getElem hlt⟩
            have hz' : (t.map Value.bool)[k]? = some (.bool z) := by simp [hz]
            obtain ⟨b', off, rfl, hc⟩ := (Hr'.out.then ho).plain (by omega) (by omega)
            have hcz := hc _ _ hz'
            have hki : (k : Int) < (t.length : Int) := by omega
            clear hc hz' hz
            obtain ⟨m, hm⟩ : ∃ m, m = (bitsIn p (nBits p)).drop at_ := ⟨_, rfl⟩
            have hU := takeU_any wr _ _ _ _ _ hrd
            have hS := takeS_any wr _ _ _ _ _ hrd
            rw [← hm] at hU hS
            have HU := Lib.hid hU
            have HS := Lib.hid hS
            have Hm := Lib.hid hm
            clear hm hU hS
            cases z with
            | true =>
              go_wp2_with fail
              refine HS.out.mono ?_
              rintro e w3 ⟨rfl, hrd3, ho3⟩
              have hrf3 := hrf.only ho3 (by simp; omega) (by simp; omega)
              have hV := refTakeS_any w3 _ _ _ _ _ hrf3
              rw [← Hm.out] at hV
              go_wp2_with fail
              refine hV.mono ?_
              rintro e w4 ⟨rfl, hrf4, ho4⟩
              have hrd4 := hrd3.only ho4 (by simp; omega) (by simp; omega)
              have ho04 : Only [] w w4 := (ho.first ho3 (by simp)).first ho4 (by simp; omega)
              have hc1 := hrf4.1.cell 1
              simp only [List.getElem?_toArray, List.getElem?_cons_succ, List.getElem?_cons_zero] at hc1
              have HA := Lib.hid (fun q => at_quiet hrd4 q)
              have hne1 : (sTake m != sTake m) = false := by simp
              have hne2 : (uErr m != uErr m) = false := by simp
              have hne3 : (((at_ + uLen m : Nat) : Int) != ((at_ + uLen m : Nat) : Int)) = false := by simp
              go_wp2_with fail
              go_quiet ((go_at_call 27; exact HA.out _))
              go_wp2_with fail
              go_roundw
              case rel => exact ⟨k + 1, by omega, by go_num, _, hrd4.only ((Only.refl [] _).drewN _) (by simp) (by simp), hrf4.only ((Only.refl [] _).drewN _) (by simp) (by simp), ho04.drewN _⟩
              case measure => simp [intOf]; omega
            | false =>
              go_wp2_with fail
              refine HU.out.mono ?_
              rintro e w3 ⟨rfl, hrd3, ho3⟩
              have hrf3 := hrf.only ho3 (by simp; omega) (by simp; omega)
              have hV := refTakeU_any w3 _ _ _ _ _ hrf3
              rw [← Hm.out] at hV
              go_wp2_with fail
              refine hV.mono ?_
              rintro e w4 ⟨rfl, hrf4, ho4⟩
              have hrd4 := hrd3.only ho4 (by simp; omega) (by simp; omega)
              have ho04 : Only [] w w4 := (ho.first ho3 (by simp)).first ho4 (by simp; omega)
              have hc1 := hrf4.1.cell 1
              simp only [List.getElem?_toArray, List.getElem?_cons_succ, List.getElem?_cons_zero] at hc1
              have HA := Lib.hid (fun q => at_quiet hrd4 q)
              have hne1 : (((uVal m : Nat) : Int) != ((uVal m : Nat) : Int)) = false := by simp
              have hne2 : (uErr m != uErr m) = false := by simp
              have hne3 : (((at_ + uLen m : Nat) : Int) != ((at_ + uLen m : Nat) : Int)) = false := by simp
              go_wp2_with fail
              go_quiet ((go_at_call 27; exact HA.out _))
              go_wp2_with fail
              go_roundw
              case rel => exact ⟨k + 1, by omega, by go_num, _, hrd4.only ((Only.refl [] _).drewN _) (by simp) (by simp), hrf4.only ((Only.refl [] _).drewN _) (by simp) (by simp), ho04.drewN _⟩
              case measure => simp [intOf]; omega
          · go_wp2_with fail
            refine (takeU_nil _).mono ?_
            rintro e w3 ⟨rfl, rfl⟩
            go_wp2_with fail
            refine (takeS_nil _).mono ?_
            rintro e w3 ⟨rfl, rfl⟩
            go_wp2_with fail
            refine (awakeV_any _).mono ?_
            rintro e w3 ⟨rfl, ho3⟩
            go_wp2_with fail
            go_ret
            exact ⟨rfl, ho.then ho3⟩
    · have hd1 : decide ((300 : Int) < (t.length : Int)) = true := by simp; omega
      clear hn'
      go_enter Try.func13, Try.ntmps13
      go_wp2
      go_ret
      exact ⟨rfl, Only.refl _ _⟩
  · have hd0 : decide ((300 : Int) < (p.length : Int)) = true := by simp; omega
    clear hn
    go_enter Try.func13, Try.ntmps13
    go_wp2
    go_ret
    exact ⟨rfl, Only.refl _ _⟩
end Go.Proofs.Ytcpmaccahfdceaa.vlcTakes
