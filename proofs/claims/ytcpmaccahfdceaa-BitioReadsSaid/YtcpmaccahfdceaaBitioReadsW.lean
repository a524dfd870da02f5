/- Proved: BitioReads returns true for all bytes and all numbers; its arguments read afterwards as before. No condition. -/
import Derived.Test.YtcpmaccahfdceaaRn
import Derived.Test.YtcpmaccahfdceaaRow
namespace Go.Proofs.Ytcpmaccahfdceaa.bitioReads
open Go.ChangeShapes Go.WideShapes Go.ChangeAt Go.RowKit bt

set_option maxHeartbeats 2000000 in
theorem walk (w : World) (A : Option Addr) (c : Nat) (p : List Nat) (hr : Reads w A 1 p.length (bytesV p)) (hm : p.length ≤ maxLen) (hp : ∀ x ∈ p, x < 256)
    (B : Option Addr) (d : Nat) (t : List Int) (hr' : Reads w B 1 t.length (t.map (Value.int .i64))) (hm' : t.length ≤ maxLen) (_hb : ∀ z ∈ t, -9223372036854775808 ≤ z ∧ z ≤ 9223372036854775807) :
    Calls Try.prog 6 #[.slice A p.length c, .slice B t.length d] w fun e w' => e = .returned (.bool true) ∧ Only [] w w' := by
  unfold maxLen at hm hm'
  by_cases hn : p.length ≤ 1000
  · have hd0 : decide ((1000 : Int) < (p.length : Int)) = false := by simp; omega
    by_cases hn' : t.length ≤ 1000
    · have hd1 : decide ((1000 : Int) < (t.length : Int)) = false := by simp; omega
      have Hr := Lib.hid hr
      have Hr' := Lib.hid hr'
      have Hp := Lib.hid hp
      clear hr hr' hp _hb
      by_cases hl : p.getLastD 0 = 0
      · have Hl := Lib.hid hl
        clear hl
        go_enter Try.func6, Try.ntmps6
        go_wp2_with fail
        refine (newReader_none _ _ _ _ p Hr.out (by omega) Hl.out).mono ?_
        rintro e w1 ⟨rfl, rfl⟩
        go_wp2_with fail
        refine (refOpen_none _ _ _ _ p Hr.out (by omega) Hl.out).mono ?_
        rintro e w1 ⟨rfl, rfl⟩
        go_wp2_with fail
        refine (awake_any _).mono ?_
        rintro e w1 ⟨rfl, ho1⟩
        go_wp2_with fail
        go_ret
        exact ⟨rfl, ho1⟩
      · have Hl := Lib.hid hl
        clear hl
        go_enter Try.func6, Try.ntmps6
        go_wp2_with fail
        refine (newReader_some _ _ _ _ p Hr.out (by omega) Hp.out Hl.out).mono ?_
        rintro e w1 ⟨rfl, hr1, ho1⟩
        go_wp2_with fail
        refine (refOpen_some _ _ _ _ p (Hr.out.then ho1) (by omega) Hp.out Hl.out).mono ?_
        rintro e w2 ⟨g, b, cc, rfl, hs2, ho2, hg, hb⟩
        have hr2 := hr1.only ho2 (by simp) (by simp)
        go_wp2_with fail
        have hnl : nBits p ≤ 8000 := by unfold nBits; omega
        have hgs : w.heap.size ≤ w1.heap.size := ho1.size
        have hg1 : w.heap.size + 1 < w1.heap.size := hr1.1.lt
        have hbl : w.heap.size + 1 ≠ g ∧ w.heap.size + 1 ≠ b ∧ w.heap.size ≠ g ∧ w.heap.size ≠ b := by omega
        have ho02 := ho1.then ho2
        clear hr1 ho1 ho2 hd0 hd1
        go_loopw [9] (fun i wr => ∃ k : Nat, k ≤ t.length ∧ i = .int .i64 k ∧ ∃ at_, ReaderIs wr (w.heap.size + 1) w.heap.size p (nBits p) at_ ∧ RefIs wr g b cc (bitsIn p (nBits p)) at_ ∧ Only [] w wr) (fun i _ => t.length - (intOf i).toNat)
        case atStart => exact ⟨0, Nat.zero_le _, rfl, 0, hr2, hs2, ho02⟩
        case round =>
          obtain ⟨k, hk, rfl, at_, hrd, hrf, ho⟩ := hrel
          have hc1 := hrf.1.cell 1
          simp only [List.getElem?_toArray, List.getElem?_cons_succ, List.getElem?_cons_zero] at hc1
          have hlen := bitsIn_length p (nBits p)
          have Hlen := Lib.hid hlen
          have hatn := hrd.2.2.1
          clear hlen
          by_cases hlt : k < t.length
          · obtain ⟨z, hz⟩ : ∃ z, t[k]? = some z := ⟨_, List.getElem?_eq_getElem hlt⟩
            have hz' : (t.map (Value.int .i64))[k]? = some (.int .i64 z) := by simp [hz]
            have hRt := Hr'.out.then ho
            obtain ⟨b', off, rfl, hc⟩ := hRt.plain (by omega) (by omega)
            have hcz := hc _ _ hz'
            have hki : (k : Int) < (t.length : Int) := by omega
            have HRt := Lib.hid hRt
            clear hc hz' hz hRt
            have HL := fun m => left_quiet hrd m
            have HRL := fun m => refLeft_quiet hrf m
            rw [Hlen.out] at HRL
            have HA := fun m => at_quiet hrd m
            have HL' := Lib.hid HL
            have HRL' := Lib.hid HRL
            have HA' := Lib.hid HA
            clear HL HRL HA
            have hne1 : (((nBits p : Int) - (at_ : Int)) != ((nBits p : Int) - (at_ : Int))) = false := by simp
            have hne2 : ((at_ : Int) != (at_ : Int)) = false := by simp
            go_wp2_with fail
            go_quiet (first | (go_at_call 23; exact HL'.out _) | (go_at_call 29; exact HRL'.out _) | (go_at_call 27; exact HA'.out _))
            go_wp2_with fail
            have hrd2 := hrd.only ((Only.refl [] wr).drewN nq) (by simp) (by simp)
            have hrf2 := hrf.only ((Only.refl [] wr).drewN nq) (by simp) (by simp)
            have hbw : b' < w.heap.size := Hr'.out.lt (by omega) (by omega) _ rfl
            refine (take_any _ _ _ _ _ _ z hrd2).mono ?_
            rintro e w3 ⟨rfl, hrd3, ho3⟩
            have hrf3 := hrf2.only ho3 (by simp; omega) (by simp; omega)
            have hcz3 : w3.cell? ⟨b', off + k, none⟩ = some (.int .i64 z) := (ho3.cell (p := ⟨b', off + k, none⟩) (World.block_lt_of_cell? _ _ hcz) (by simp; omega)).trans hcz
            clear HL' HRL' HA' hc1 hcz
            go_wp2_with fail
            refine (refTake_any _ _ _ _ _ _ z hrf3).mono ?_
            rintro e w4 ⟨rfl, hrf4, ho4⟩
            rw [Hlen.out] at hrf4 ⊢
            have hrd4 := hrd3.only ho4 (by simp; omega) (by simp; omega)
            have ho04 : Only [] w w4 := ((ho.drewN nq).first ho3 (by simp)).first ho4 (by simp; omega)
            go_wp2_with fail
            go_roundw
            case rel => exact ⟨k + 1, by omega, by go_num, _, hrd4, hrf4, ho04⟩
            case measure => simp [intOf]; omega
          · have heq : (((nBits p : Int) - (at_ : Int)) == (((bitsIn p (nBits p)).length : Int) - (at_ : Int))) = true := by rw [Hlen.out]; simp
            go_wp2_with fail
            go_region_held3 (fun w' => w'.cell? ⟨g, 1, none⟩ = some (.int .i64 (at_ : Int)))
              (first | exact hc1 | exact (ho5.cell (p := ⟨g, 1, none⟩) (World.block_lt_of_cell? _ _ hc1) (by simp)).trans hc1)
              (first
               | (go_at_call 21; refine (awake_any _).mono ?_; rintro e w5 ⟨rfl, ho5⟩)
               | (go_at_call 23; refine (left_any _ _ _ _ _ _ (by first | exact (hrd.drew).only ho5 (by simp) (by simp) | exact ((hrd.drew).only ho5 (by simp) (by simp)).drew | exact ((hrd.drew).only ho5 (by simp) (by simp)).drew.drew)).mono ?_; rintro e w6 ⟨rfl, rfl⟩)
               | (go_at_call 29; refine (refLeft_any _ _ _ _ _ _ (by first | exact (hrf.drew).only ho5 (by simp) (by simp) | exact ((hrf.drew).only ho5 (by simp) (by simp)).drew | exact ((hrf.drew).only ho5 (by simp) (by simp)).drew.drew)).mono ?_; rintro e w6 ⟨rfl, rfl⟩)
               | (go_at_call 27; refine (at_any _ _ _ _ _ _ (by first | exact ((hrd.drew).only ho5 (by simp) (by simp)).drew.drew | exact (hrd.drew).only ho5 (by simp) (by simp) | exact ((hrd.drew).only ho5 (by simp) (by simp)).drew)).mono ?_; rintro e w6 ⟨rfl, rfl⟩))
            all_goals go_wp2_with fail
            go_ret
            exact ⟨rfl, (((ho.drew).then ho5).drew).drew⟩
    · have hd1 : decide ((1000 : Int) < (t.length : Int)) = true := by simp; omega
      clear hn'
      go_enter Try.func6, Try.ntmps6
      go_wp2
      go_ret
      exact ⟨rfl, Only.refl _ _⟩
  · have hd0 : decide ((1000 : Int) < (p.length : Int)) = true := by simp; omega
    clear hn
    go_enter Try.func6, Try.ntmps6
    go_wp2
    go_ret
    exact ⟨rfl, Only.refl _ _⟩
end Go.Proofs.Ytcpmaccahfdceaa.bitioReads
