/- QuantNearest: the walk. -/
import Derived.Test.YtdcbkmjmakogeaaQs
namespace Go.Proofs.Ytdcbkmjmakogeaa.quantNearest
open Go.RowKit

set_option maxHeartbeats 2000000 in
set_option maxRecDepth 100000 in
theorem walk (w : World) (A : Option Addr) (c : Nat) (l : List Int) (hr : Reads w A 1 l.length (l.map (Value.int .i64))) (hm : l.length ≤ maxLen) (hb : ∀ z ∈ l, -9223372036854775808 ≤ z ∧ z ≤ 9223372036854775807)
    (A2 : Option Addr) (c2 : Nat) (p : List Nat) (hr2 : Reads w A2 1 p.length (p.map fun (b : Nat) => Value.int .u8 (b : Int))) (hm2 : p.length ≤ maxLen) (hp : ∀ x ∈ p, x < 256)
    (q : Int) (_hq : -9223372036854775808 ≤ q ∧ q ≤ 9223372036854775807) :
    Calls Try.prog 8 #[.slice A l.length c, .slice A2 p.length c2, .int .i64 q] w fun e w' => e = .returned (.bool true) ∧ Only [] w w' := by
  have hI := blockOf_I64 hb
  have hU := matOf_U8 hp
  generalize hx : blockOf l = x at hI
  generalize hmm : matOf p = m at hU
  have HX := Lib.hid hx
  have HM := Lib.hid hmm
  clear hx hmm hb hp
  go_enter Try.func8, Try.ntmps8
  go_wp2_with fail
  refine (block_any _ A c l hr hm).mono ?_
  rintro e w1 ⟨rfl, o1⟩
  rw [HX.out]
  go_wp2_with fail
  refine (qmatrix_any _ A2 c2 p (hr2.then o1) hm2).mono ?_
  rintro e w2 ⟨rfl, o2⟩
  rw [HM.out]
  go_wp2_with (first | (refine al64 rfl rfl ?_; rintro g1 w3 b3 o3 l3) | (refine al8 rfl rfl ?_; rintro g2 w4 b4 o4 l4) | (have b3' := b3.only o4 (by simp); refine sr64 b3' rfl rfl rfl rfl ?_; rintro w5 b5 o5 e5) | (have b4' := b4.only o5 (by have := b3.lt; simp; omega); refine sr8 b4' rfl rfl rfl rfl ?_; rintro w6 b6 o6 e6) | (have b5' := b5.only o6 (by have := b3.lt; simp; omega); refine ld64 b5' rfl rfl rfl ?_) | refine ld8 b6 rfl rfl rfl ?_)
  have hz := o1.size
  have hz2 := o2.size
  have hz3 := o3.size
  have hz4 := o4.size
  have ho6 := ((((o1.then o2).then o3).then o4).own o5 (by omega)).own o6 (by omega)
  clear o1 o2 o3 o4 o5 o6 b3 b4 b3' b4' b5
  refine (quant_any _ x m q hI hU).mono ?_
  rintro e w7 ⟨rfl, o7⟩
  have ho7 := ho6.then o7
  have bx7 := b5'.only o7 (by simp)
  have bm7 := b6.only o7 (by simp)
  clear o7 b5' b6 ho6
  rcases q_cases x m q with ⟨hqe, hqz, hmay, hin⟩ | hqe | hqe
  rotate_left
  · rw [hqe]
    clear hqe
    go_wp2_with (first | (refine al64 rfl rfl ?_; rintro g3 w4 b4 o4 l4) | (refine sr64 b4 rfl rfl rfl rfl ?_; rintro w5 b5 o5 e5))
    have HO := (ho7.then o4).own o5 (by have := ho7.size; omega)
    refine (awake_any _).mono ?_
    rintro e wa ⟨rfl, oa⟩
    go_wp2_with fail
    go_ret
    exact ⟨rfl, HO.then oa⟩
  · rw [hqe]
    clear hqe
    go_wp2_with (first | (refine al64 rfl rfl ?_; rintro g3 w4 b4 o4 l4) | (refine sr64 b4 rfl rfl rfl rfl ?_; rintro w5 b5 o5 e5))
    have HO := (ho7.then o4).own o5 (by have := ho7.size; omega)
    refine (awake_any _).mono ?_
    rintro e wa ⟨rfl, oa⟩
    go_wp2_with fail
    go_ret
    exact ⟨rfl, HO.then oa⟩
  rw [hqe, hqz]
  have hL := inside_true.1 hin
  have hJ : I64 64 (lvs x m q) := fun k hk => by have := hL k hk; omega
  obtain ⟨hdz, hde⟩ := goodD (lvs x m q) m q hmay hin
  clear hqe hqz
  go_wp2_with (first | (refine al64 rfl rfl ?_; rintro g3 w8 b8 o8 l8) | (refine sr64 b8 rfl rfl rfl rfl ?_; rintro w9 b9 o9 e9) | (refine ld64 b9 rfl rfl rfl ?_) | (have bm9 := (bm7.only o8 (by simp)).only o9 (by have := bm7.lt; simp; omega); refine ld8 bm9 rfl rfl rfl ?_))
  have ho9 := (ho7.then o8).own o9 (by have := ho7.size; omega)
  have bx9 := (bx7.only o8 (by simp)).only o9 (by have := bx7.lt; simp; omega)
  clear o8 o9 b8 bx7 bm7 ho7
  refine (deq_any _ (lvs x m q) m q hJ hU).mono ?_
  rintro e wa ⟨rfl, oa⟩
  rw [hdz, hde]
  have hoa := ho9.then oa
  have bxa := bx9.only oa (by simp)
  have bma := bm9.only oa (by simp)
  clear oa b9 bx9 bm9 ho9 hdz hde
  go_wp2_with (first | (refine al64 rfl rfl ?_; rintro g4 wb bb ob lb) | (refine sr64 bb rfl rfl rfl rfl ?_; rintro wc bc oc ec))
  have hoc := (hoa.then ob).own oc (by have := hoa.size; omega)
  have bxc := (bxa.only ob (by simp)).only oc (by have := bxa.lt; simp; omega)
  have bmc := (bma.only ob (by simp)).only oc (by have := bma.lt; simp; omega)
  clear ob oc bb bxa bma hoa
  have hq := may_q hmay
  have hv := may_v hmay
  clear hmay hin
  go_loopw [13] (fun i wr => ∃ k : Nat, k ≤ 64 ∧ i = .int .i64 k ∧ Only [] wc wr) (fun i _ => 64 - (intOf i).toNat)
  case atStart => exact ⟨0, by omega, rfl, Only.refl _ _⟩
  case round =>
    obtain ⟨k, hk, rfl, ol⟩ := hrel
    by_cases hlt : k < 64
    · have hd : decide ((k : Int) < 64) = true := by simp; omega
      have hmk : 8 ≤ m k ∧ m k ≤ 255 := ⟨hv k hlt, (hU k hlt).2⟩
      have hs := mqg_bd hmk hq hlt
      have cm := (bmc.only ol (by simp)).cell k
      rw [arr_get hlt] at cm
      have cx := (bxc.only ol (by simp)).cell k
      rw [arr_get hlt] at cx
      have cz := (bc.only ol (by simp)).cell k
      rw [arr_get hlt] at cz
      have hzv : dqs (lvs x m q) m q k = lv (x k) (m k * q * Gk k) * (m k * q * Gk k) := rfl
      rw [hzv] at cz
      have hn := lv_near (x k) (m k * q * Gk k) (by omega)
      have hz0 := lvl_mul_bd (l := lv (x k) (m k * q * Gk k)) (hL k hlt) hs
      go_wp2_with fail
      refine (step_in _ (m k) q k hmk hq hlt).mono ?_
      rintro e wd ⟨rfl, od⟩
      generalize lv (x k) (m k * q * Gk k) * (m k * q * Gk k) = z at cz hn hz0
      generalize m k * q * Gk k = s at hs hn
      have cx2 := (od.cell (p := ⟨g1, k, none⟩) (World.block_lt_of_cell? _ _ cx) (by simp)).trans cx
      have cz2 := (od.cell (p := ⟨g4, k, none⟩) (World.block_lt_of_cell? _ _ cz) (by simp)).trans cz
      have f1 : ∀ w', Cls wd w' → w'.cell? ⟨g1, k, none⟩ = some (.int .i64 (x k)) := fun w' h => h.cell cx2
      have f2 : ∀ w', Cls wd w' → w'.cell? ⟨g4, k, none⟩ = some (.int .i64 z) := fun w' h => h.cell cz2
      have d1 : decide (s < 1) = false := by simp; omega
      have d2 : decide (s < 2 * (z - x k)) = false := by simp; omega
      have d3 : decide (s < 2 * (x k - z)) = false := by simp; omega
      clear hzv
      go_wp2_with fail
      refine rgn (Cls wd) (by kernel_rfl) (by kernel_rfl) Cls.refl ?_
      repeat (first | (refine qU rfl ?_; simp only [Act.put, List.setIfInBounds_toArray, List.set_cons_zero, List.set_cons_succ]) | (refine qW ?_ rfl rfl (fun w hC K hK => ?_) ?_; rotate_left; (focus ((go_wp2_with fail) <;> exact hK _ hC)); simp only [Act.put, List.setIfInBounds_toArray, List.set_cons_zero, List.set_cons_succ]))
      refine qN ?_
      intro w' hw'
      go_wp2_with fail
      exact ⟨⟨k + 1, by omega, by go_num, (ol.then od).then hw'.only⟩, by simp [intOf]; omega⟩
    · obtain rfl : k = 64 := by omega
      have HO := hoc.then ol
      go_wp2_with fail
      refine (awake_any _).mono ?_
      rintro e wa ⟨rfl, oa⟩
      go_wp2_with fail
      go_ret
      exact ⟨rfl, HO.then oa⟩
end Go.Proofs.Ytdcbkmjmakogeaa.quantNearest
