/- QuantError: the walk. -/
import Derived.Test.YtdcbkmjmakogeaaQd
namespace Go.Proofs.Ytdcbkmjmakogeaa.quantError
open Go.RowKit

theorem bnd_small {m : Nat → Int} {q : Int} (hU : U8 m) : 0 ≤ bnd m q ∧ bnd m q ≤ 6000000 := by
  unfold bnd
  split
  · rename_i hm
    have hB := bs_bd (m := m) (q := q) (fun n hn => ⟨may_v hm n hn, (hU n hn).2⟩) (may_q hm)
    have hM := mx_bd (f := bs m q) (B := 18496 * 18496 * 284580 * 64) (by omega) 64 (fun i hi => by
      have := hB (i / 8) (i % 8) (by omega) (by omega)
      rwa [at8] at this)
    omega
  · omega

set_option maxHeartbeats 2000000 in
set_option maxRecDepth 100000 in
theorem walk (w : World) (A : Option Addr) (c : Nat) (l : List Int) (hr : Reads w A 1 l.length (l.map (Value.int .i64))) (hm : l.length ≤ maxLen) (hb : ∀ z ∈ l, -9223372036854775808 ≤ z ∧ z ≤ 9223372036854775807)
    (A2 : Option Addr) (c2 : Nat) (p : List Nat) (hr2 : Reads w A2 1 p.length (p.map fun (b : Nat) => Value.int .u8 (b : Int))) (hm2 : p.length ≤ maxLen) (hp : ∀ x ∈ p, x < 256)
    (q : Int) (_hq : -9223372036854775808 ≤ q ∧ q ≤ 9223372036854775807) :
    Calls Try.prog 11 #[.slice A l.length c, .slice A2 p.length c2, .int .i64 q] w fun e w' => e = .returned (.bool true) ∧ Only [] w w' := by
  have hI := blockOf_I64 hb
  have hU := matOf_U8 hp
  generalize hx : blockOf l = x at hI
  generalize hmm : matOf p = m at hU
  have HX := Lib.hid hx
  have HM := Lib.hid hmm
  clear hx hmm hb hp
  go_enter Try.func11, Try.ntmps11
  go_wp2_with fail
  refine (block_any _ A c l hr hm).mono ?_
  rintro e w1 ⟨rfl, o1⟩
  rw [HX.out]
  go_wp2_with fail
  refine (qmatrix_any _ A2 c2 p (hr2.then o1) hm2).mono ?_
  rintro e w2 ⟨rfl, o2⟩
  rw [HM.out]
  go_wp2_with (first | (refine al64 rfl rfl ?_; rintro g1 w3 b3 o3 l3) | (refine al8 rfl rfl ?_; rintro g2 w4 b4 o4 l4) | (have b3' := b3.only o4 (by simp); refine sr64 b3' rfl rfl rfl rfl ?_; rintro w5 b5 o5 e5) | (have b4' := b4.only o5 (by have := b3.lt; simp; omega); refine sr8 b4' rfl rfl rfl rfl ?_; rintro w6 b6 o6 e6) | refine ld8 b6 rfl rfl rfl ?_)
  have hl3 := b3.lt
  have b5' := b5.only o6 (by simp; omega)
  have hz := o1.size
  have hz2 := o2.size
  have hz3 := o3.size
  have hz4 := o4.size
  have ho6 := ((((o1.then o2).then o3).then o4).own o5 (by omega)).own o6 (by omega)
  clear o1 o2 o3 o4 o5 o6 b3 b4 b3' b4' b5
  refine (may_any _ m q).mono ?_
  rintro e w7 ⟨rfl, o7⟩
  have ho7 := ho6.then o7
  have bx7 := b5'.only o7 (by simp)
  have bm7 := b6.only o7 (by simp)
  clear o7 b5' b6 ho6
  cases hmay : mayB m q with
  | false =>
    have HO := ho7
    clear hmay
    go_wp2_with fail
    refine (awake_any _).mono ?_
    rintro e wa ⟨rfl, oa⟩
    go_wp2_with fail
    go_ret
    exact ⟨rfl, HO.then oa⟩
  | true =>
    go_wp2_with (refine ld64 bx7 rfl rfl rfl ?_)
    cases hin : inside x 255 64 with
    | false =>
      refine (forward_out _ x hI hin).mono ?_
      rintro e w8 ⟨rfl, o8⟩
      go_wp2_with (first | (refine al64 rfl rfl ?_; rintro g3 w9 b9 o9 l9) | (refine sr64 b9 rfl rfl rfl rfl ?_; rintro wz bz oz ez))
      have HO := ((ho7.then o8).then o9).own oz (by have := ho7.size; have := o8.size; omega)
      clear hin hmay
      refine (awake_any _).mono ?_
      rintro e wa ⟨rfl, oa⟩
      go_wp2_with fail
      go_ret
      exact ⟨rfl, HO.then oa⟩
    | true =>
      have hB : Bd x 255 := inside_true.1 hin
      have hJ := fw_I64 hB
      have hlev := fw_level hB hU hmay
      have hL : I64 64 (lvs (fw x) m q) := fun k hk => by have := inside_true.1 hlev k hk; omega
      have HQ := Lib.hid (goodQ (fw x) m q hmay hlev)
      have HD := Lib.hid (goodD (lvs (fw x) m q) m q hmay hlev)
      have hzI : I64 64 (dqs (lvs (fw x) m q) m q) := fun k hk => by have := dqs_bd hU hmay hlev k hk; omega
      have HR := Lib.hid (fun n hn => err_bd hB hU hmay n hn)
      have hinv : ∀ k, k < 64 → -100000000 ≤ inv (dqs (lvs (fw x) m q) m q) k ∧ inv (dqs (lvs (fw x) m q) m q) k ≤ 100000000 := fun k hk => by
        have := sumI_bd (dqs (lvs (fw x) m q) m q) k hk
        unfold inv near; omega
      refine (forward_in _ x hI hin).mono ?_
      rintro e w8 ⟨rfl, o8⟩
      have ho8 := ho7.then o8
      have bx8 := bx7.only o8 (by simp)
      have bm8 := bm7.only o8 (by simp)
      clear o8 ho7 bx7 bm7 hin hmay hlev
      go_wp2_with (first | (refine al64 rfl rfl ?_; rintro g3 w9 b9 o9 l9) | (refine sr64 b9 rfl rfl rfl rfl ?_; rintro wb bb ob eb) | refine ld64 bb rfl rfl rfl ?_ | (have bmb := (bm8.only o9 (by simp)).only ob (by have := bm8.lt; simp; omega); refine ld8 bmb rfl rfl rfl ?_))
      have hob := (ho8.then o9).own ob (by have := ho8.size; omega)
      have bxb := (bx8.only o9 (by simp)).only ob (by have := bx8.lt; simp; omega)
      clear o9 ob b9 ho8 bx8 bm8
      refine (quant_any _ (fw x) m q hJ hU).mono ?_
      rintro e wc ⟨rfl, oc⟩
      rw [HQ.out.1, HQ.out.2]
      have hoc := hob.then oc
      have bxc := bxb.only oc (by simp)
      have bmc := bmb.only oc (by simp)
      clear oc bb hob bxb bmb
      go_wp2_with (first | (refine al64 rfl rfl ?_; rintro g4 wd bd od ld) | (refine sr64 bd rfl rfl rfl rfl ?_; rintro we be oe ee) | refine ld64 be rfl rfl rfl ?_ | (have bme := (bmc.only od (by simp)).only oe (by have := bmc.lt; simp; omega); refine ld8 bme rfl rfl rfl ?_))
      have hoe := (hoc.then od).own oe (by have := hoc.size; omega)
      have bxe := (bxc.only od (by simp)).only oe (by have := bxc.lt; simp; omega)
      clear od oe bd hoc bxc bmc
      refine (deq_any _ (lvs (fw x) m q) m q hL hU).mono ?_
      rintro e wf ⟨rfl, of⟩
      rw [HD.out.1, HD.out.2]
      have hof := hoe.then of
      have bxf := bxe.only of (by simp)
      have bmf := bme.only of (by simp)
      clear of be hoe bxe bme
      generalize dqs (lvs (fw x) m q) m q = z at hzI HR hinv
      go_wp2_with (first | (refine al64 rfl rfl ?_; rintro g5 wg bg og lg) | (refine sr64 bg rfl rfl rfl rfl ?_; rintro wh bh oh eh))
      have hoh := (hof.then og).own oh (by have := hof.size; omega)
      have bxh := (bxf.only og (by simp)).only oh (by have := bxf.lt; simp; omega)
      have bmh := (bmf.only og (by simp)).only oh (by have := bmf.lt; simp; omega)
      clear og oh bg hof bxf bmf
      have hbd : 0 ≤ bnd m q ∧ bnd m q ≤ 6000000 := bnd_small hU
      refine rgnA1 30 _ _ 6 5 15 (by kernel_rfl) (by kernel_rfl) (by kernel_rfl) (by kernel_rfl) (by kernel_rfl) zero64 rfl ?_
      simp only [List.take_succ_cons, List.take_zero, List.drop_succ_cons, List.drop_zero]
      refine oR _ bh rfl rfl rfl rfl Try.underlying30 rfl (info_of_arr _) ?_
      simp only [Act.put, List.setIfInBounds_toArray, List.set_cons_zero, List.set_cons_succ]
      refine oC (fun w hC => (inverse_any w z hzI)) rfl rfl (fun w => ?_) ?_
      · go_simp; try rfl
      simp only [Act.put, List.setIfInBounds_toArray, List.set_cons_zero, List.set_cons_succ]
      refine oR _ bmh rfl rfl rfl rfl Try.underlying23 rfl (info_of_arr8 _) ?_
      simp only [Act.put, List.setIfInBounds_toArray, List.set_cons_zero, List.set_cons_succ]
      repeat (first | (refine oU rfl rfl ?_; simp only [Act.put, List.setIfInBounds_toArray, List.set_cons_zero, List.set_cons_succ]) | (refine oW ?_ rfl rfl rfl (fun w hC K hK => ?_) ?_; rotate_left; (focus ((go_wp2_with fail) <;> exact hK _ (Only.refl _ _))); simp only [Act.put, List.setIfInBounds_toArray, List.set_cons_zero, List.set_cons_succ]))
      refine oC (fun w hC => (bound_any w m q hU)) rfl rfl (fun w => ?_) ?_
      · go_simp; try rfl
      simp only [Act.put, List.setIfInBounds_toArray, List.set_cons_zero, List.set_cons_succ]
      refine oA rfl ?_
      refine oN ?_
      intro g6 w' hw' hbg6 hlg6
      simp only [List.setIfInBounds_toArray, List.set_cons_zero, List.set_cons_succ]
      generalize bnd m q = B at HR hbd
      go_wp2_with (refine sr64 hbg6 rfl rfl rfl rfl ?_; rintro wi bi oi ei)
      have hoi := (hoh.then hw'.only).own oi (by have := hoh.size; omega)
      have bxi := (hw'.blk bxh).only oi (by have := bxh.lt; simp; omega)
      clear oi hbg6 bxh bmh bh hoh
      go_loopw [17] (fun i wr => ∃ k : Nat, k ≤ 64 ∧ i = .int .i64 k ∧ Only [] wi wr) (fun i _ => 64 - (intOf i).toNat)
      case atStart => exact ⟨0, by omega, rfl, Only.refl _ _⟩
      case round =>
        obtain ⟨k, hk, rfl, ol⟩ := hrel
        by_cases hlt : k < 64
        · have hd : decide ((k : Int) < 64) = true := by simp; omega
          have cx := (bxi.only ol (by simp)).cell k
          rw [arr_get hlt] at cx
          have cz := (bi.only ol (by simp)).cell k
          rw [arr_get hlt] at cz
          have hxk := hB k hlt
          have hik := hinv k hlt
          have he := HR.out k hlt
          generalize inv z k = y at cz hik he
          have f1 : ∀ w', Cls wr w' → w'.cell? ⟨g1, k, none⟩ = some (.int .i64 (x k)) := fun w' h => h.cell cx
          have f2 : ∀ w', Cls wr w' → w'.cell? ⟨g6, k, none⟩ = some (.int .i64 y) := fun w' h => h.cell cz
          have d1 : decide (B < y - x k) = false := by simp; omega
          have d2 : decide (B < x k - y) = false := by simp; omega
          go_wp2_with fail
          refine rgn (Cls wr) (by kernel_rfl) (by kernel_rfl) Cls.refl ?_
          repeat (first | (refine qU rfl ?_; simp only [Act.put, List.setIfInBounds_toArray, List.set_cons_zero, List.set_cons_succ]) | (refine qW ?_ rfl rfl (fun w hC K hK => ?_) ?_; rotate_left; (focus ((go_wp2_with fail) <;> exact hK _ hC)); simp only [Act.put, List.setIfInBounds_toArray, List.set_cons_zero, List.set_cons_succ]))
          refine qN ?_
          intro wz hwz
          go_wp2_with fail
          exact ⟨⟨k + 1, by omega, by go_num, ol.then hwz.only⟩, by simp [intOf]; omega⟩
        · obtain rfl : k = 64 := by omega
          have HO := hoi.then ol
          go_wp2_with fail
          refine (awake_any _).mono ?_
          rintro e wa ⟨rfl, oa⟩
          go_wp2_with fail
          go_ret
          exact ⟨rfl, HO.then oa⟩
end Go.Proofs.Ytdcbkmjmakogeaa.quantError
