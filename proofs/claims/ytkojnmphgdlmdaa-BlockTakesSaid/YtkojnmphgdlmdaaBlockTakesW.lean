/- Proved: BlockTakes returns true for all its arguments, which read afterwards as before. No condition. -/
import Derived.Test.YtkojnmphgdlmdaaB10
import Derived.Test.YtkojnmphgdlmdaaRow
namespace Go.Proofs.Ytkojnmphgdlmdaa.blockTakes
open Go.ChangeShapes Go.WideShapes Go.ChangeAt Go.RowKit bt

theorem equal64 (x : Nat → Int) (w : World) : (Op.equal 23 (.agg (arr .i64 64 x)) (.agg (arr .i64 64 x))).run Try.prog w = .ok true w := by
  have h : (Try.prog.info? 3).isSome = true := by kernel_rfl
  obtain ⟨i, hi⟩ := Option.isSome_iff_exists.1 h
  have h1 := run_eql_arr w 23 3 .i64 64 i x x Try.underlying23 Try.underlying3 hi (by kernel_rfl)
  rw [eqTo_of (fun _ _ => rfl)] at h1
  unfold binOp at h1
  simp only [Sem.run_bind] at h1
  generalize (Op.equal 23 (.agg (arr .i64 64 x)) (.agg (arr .i64 64 x))).run Try.prog w = r at h1 ⊢
  cases r with
  | ok v w' => simp [Result.andThen] at h1; obtain ⟨rfl, rfl⟩ := h1; rfl
  | halt a b => simp [Result.andThen] at h1
theorem eqlz (w : World) : (binOp .eql 23 (.agg (arr .i64 64 z64)) (.agg (arr .i64 64 fun _ => 0))).run Try.prog w = .ok (.bool true) w := by
  have := equal64 z64 w
  rw [show (fun _ => 0 : Nat → Int) = z64 from rfl]
  unfold binOp
  simp only [Sem.run_bind, this, Result.andThen_ok]
  rfl
theorem neqx (x : Nat → Int) (w : World) : (binOp .neq 23 (.agg (arr .i64 64 x)) (.agg (arr .i64 64 x))).run Try.prog w = .ok (.bool false) w := by
  have := equal64 x w
  unfold binOp
  simp only [Sem.run_bind, this, Result.andThen_ok]
  rfl
set_option maxRecDepth 100000 in
set_option maxHeartbeats 4000000 in
theorem walk (w : World) (A : Option Addr) (c : Nat) (p : List Nat) (hr : Reads w A 1 p.length (bytesV p)) (_hm : p.length ≤ maxLen) (hp : ∀ x ∈ p, x < 256)
    (B : Option Addr) (d : Nat) (t : List Int) (hr' : Reads w B 1 t.length (t.map (Value.int .i64))) (_hm' : t.length ≤ maxLen) (_hb : ∀ z ∈ t, -9223372036854775808 ≤ z ∧ z ≤ 9223372036854775807) :
    Calls Try.prog 4 #[.slice A p.length c, .slice B t.length d] w fun e w' => e = .returned (.bool true) ∧ Only [] w w' := by
  have Hr := Lib.hid hr
  have Hr' := Lib.hid hr'
  have Hp := Lib.hid hp
  clear hr hr' hp _hb
  go_enter Try.func4, Try.ntmps4
  by_cases hn : p.length ≤ 500
  · have hd0 : decide ((500 : Int) < (p.length : Int)) = false := decide_eq_false (by omega)
    by_cases hn' : t.length ≤ 50
    · have hd1 : decide ((50 : Int) < (t.length : Int)) = false := decide_eq_false (by omega)
      go_wp2_with fail
      clear hd0 hd1
      by_cases hl : p.getLastD 0 = 0
      · refine (newReader_none _ _ _ _ p Hr.out (by omega) hl).mono ?_
        rintro e w1 ⟨rfl, rfl⟩
        have Hl := Lib.hid hl
        clear hl
        go_wp2_with fail
        refine (refOpen_none _ _ _ _ p Hr.out (by omega) Hl.out).mono ?_
        rintro e w1 ⟨rfl, rfl⟩
        go_wp2_with fail
        refine (awake_any _).mono ?_
        rintro e w1 ⟨rfl, ho1⟩
        go_wp2_with fail
        go_ret
        exact ⟨rfl, ho1⟩
      · refine (newReader_some _ _ _ _ p Hr.out (by omega) Hp.out hl).mono ?_
        rintro e w1 ⟨rfl, hr1, ho1⟩
        have Hl := Lib.hid hl
        clear hl
        go_wp2_with fail
        refine (refOpen_some _ _ _ _ p (Hr.out.then ho1) (by omega) Hp.out Hl.out).mono ?_
        rintro e w2 ⟨g, b, cc, rfl, hs2, ho2, hg, hb⟩
        have hr2 := hr1.only ho2 (by simp) (by simp)
        have hgs : w.heap.size ≤ w1.heap.size := ho1.size
        have hg1 : w.heap.size + 1 < w1.heap.size := hr1.1.lt
        generalize hG : w.heap.size + 1 = gr at hr2 hg1 ⊢
        generalize hW : w.heap.size = w0 at hr2 hgs hG
        have hbl : gr ≠ g ∧ gr ≠ b ∧ w0 ≠ g ∧ w0 ≠ b := by omega
        have hww : w.heap.size ≤ gr ∧ w.heap.size ≤ g := by omega
        have HRd := Lib.hid hr2
        have HRf := Lib.hid hs2
        have HO := Lib.hid (ho1.then ho2)
        clear hr1 ho1 ho2 hr2 hs2 hG hW
        go_wp2_with fail
        go_loopw [9] (fun i wr => ∃ k : Nat, k ≤ t.length ∧ i = .int .i64 k ∧ ∃ at_, Hid (ReaderIs wr gr w0 p (nBits p) at_) ∧ Hid (RefIs wr g b cc (bitsIn p (nBits p)) at_) ∧ Hid (Only [] w wr)) (fun i _ => t.length - (intOf i).toNat)
        case atStart => exact ⟨0, Nat.zero_le _, rfl, 0, HRd, HRf, HO⟩
        case round =>
          obtain ⟨k, hk, rfl, at_, HRd1, HRf1, HO1⟩ := hrel
          by_cases hlt : k < t.length
          · obtain ⟨z, hz⟩ : ∃ z, t[k]? = some z := ⟨_, List.getElem?_eq_getElem hlt⟩
            have hz' : (t.map (Value.int .i64))[k]? = some (.int .i64 z) := by simp [hz]
            obtain ⟨b', off, rfl, hc⟩ := (Hr'.out.then HO1.out).plain (by omega) (by omega)
            have hcz := hc _ _ hz'
            have hbw : b' < w.heap.size := Hr'.out.lt (by omega) (by omega) _ rfl
            have hki : (k : Int) < (t.length : Int) := by omega
            clear hc hz' hz
            obtain ⟨R, hR⟩ : ∃ R, TR z ((bitsIn p (nBits p)).drop at_) = R := ⟨_, rfl⟩
            have HR := Lib.hid hR
            clear hR
            go_wp2_with fail
            refine (btake_any _ gr w0 p (nBits p) at_ HRd1.out z R HR.out).mono ?_
            rintro e w4 ⟨hcase, o4⟩
            have HRf4 := Lib.hid (HRf1.out.only o4 (by simp; omega) (by simp; omega))
            have HO4 := Lib.hid (HO1.out.first o4 (by simp; omega))
            have hcz4 : w4.cell? ⟨b', off + k, none⟩ = some (.int .i64 z) := (o4.cell (p := ⟨b', off + k, none⟩) (World.block_lt_of_cell? _ _ hcz) (by simp; omega)).trans hcz
            have hgl4 : g < w4.heap.size := HRf4.out.1.lt
            clear o4 hcz HRf1 HO1 HRd1
            rcases hcase with ⟨hR0, rfl, hRd⟩ | ⟨hR0, rfl, at1, hRd⟩
            · have HR0 := Lib.hid hR0
              have HRd4 := Lib.hid hRd
              clear hR0 hRd
              have tok : True := trivial
              have tok2 : True := trivial
              go_wp2_with (first | (clear tok; refine al64 rfl rfl ?_; rintro g5 w5 b5 o5 l5) | (clear tok2; refine sr64 (y := R.2.1) b5 rfl rfl rfl rfl ?_; rintro w6 b6 o6 l6; have o46 := Only.own o5 o6 l5; have hcz6 : w6.cell? ⟨b', off + k, none⟩ = some (.int .i64 z) := (o46.cell (p := ⟨b', off + k, none⟩) (World.block_lt_of_cell? _ _ hcz4) (by simp)).trans hcz4))
              have HRd6 := Lib.hid (HRd4.out.only o46 (by simp) (by simp))
              have HRf6 := Lib.hid (HRf4.out.only o46 (by simp) (by simp))
              have HO6 := Lib.hid (HO4.out.then o46)
              clear o5 o6 b5 hcz4 hcz6 HRf4 HO4 HRd4 o46
              refine (refBTake_any _ g b cc (bitsIn p (nBits p)) at_ HRf6.out z R HR.out).mono ?_
              rintro e w7 ⟨hcase, o7⟩
              rcases hcase with ⟨_, rfl, hRf⟩ | ⟨hR0, _, _⟩
              · have b7 := b6.only o7 (by simp; omega)
                have HRd7 := Lib.hid (HRd6.out.only o7 (by simp; omega) (by simp; omega))
                have HRf7 := Lib.hid hRf
                have HO7 := Lib.hid (HO6.out.first o7 (by simp; omega))
                have hnq := neqx R.2.1
                clear o7 hRf b6 HRd6 HRf6 HO6
                have tok : True := trivial
                have tok2 : True := trivial
                have tok3 : True := trivial
                have tok4 : True := trivial
                go_wp2_with (first | (clear tok; refine al64 rfl rfl ?_; rintro g71 w71 b71 o71 l71) | (clear tok2; refine sr64 (y := R.2.1) b71 rfl rfl rfl rfl ?_; rintro w8 b8 o8 l8; have o78 := Only.own o71 o8 l71; have bx8 := b7.only o78 (by simp)) | (clear tok3; refine ld64 (x := R.2.1) bx8 rfl rfl rfl ?_) | (clear tok4; refine ld64 (x := R.2.1) b8 rfl rfl rfl ?_))
                have HRd8 := Lib.hid (HRd7.out.only o78 (by simp) (by simp))
                have HRf8 := Lib.hid (HRf7.out.only o78 (by simp) (by simp))
                have HO8 := Lib.hid (HO7.out.then o78)
                have cA : w8.cell? ⟨g, 1, none⟩ = some (.int .i64 ((at_ + R.2.2 : Nat) : Int)) := HRf8.out.1.cell 1
                have fA : ∀ w', Cls w8 w' → w'.cell? ⟨g, 1, none⟩ = some (.int .i64 ((at_ + R.2.2 : Nat) : Int)) := fun w' h => h.cell cA
                clear hnq o71 o8 b71 b7 bx8 b8 o78 HRd7 HRf7 HO7 cA
                generalize at_ + R.2.2 = at2 at HRd8 HRf8 fA
                refine rgn (Cls w8) (by kernel_rfl) (by kernel_rfl) Cls.refl ?_
                iterate 1 (first | (refine qU rfl ?_; simp only [Act.put, List.setIfInBounds_toArray, List.set_cons_zero, List.set_cons_succ]) | (refine qW ?_ rfl rfl (fun w hC K hK => ?_) ?_; rotate_left; (focus ((go_wp2_with fail) <;> exact hK _ hC)); simp only [Act.put, List.setIfInBounds_toArray, List.set_cons_zero, List.set_cons_succ]))
                refine qC (fun w hC => Calls.cls_same hC (at_any w _ _ p (nBits p) _ (HRd8.out.only hC.only (by simp) (by simp)))) rfl (fun w => ?_) ?_
                · go_simp; try rfl
                simp only [Act.put, List.setIfInBounds_toArray, List.set_cons_zero, List.set_cons_succ]
                repeat (first | (refine qU rfl ?_; simp only [Act.put, List.setIfInBounds_toArray, List.set_cons_zero, List.set_cons_succ]) | (refine qW ?_ rfl rfl (fun w hC K hK => ?_) ?_; rotate_left; (focus ((go_wp2_with fail) <;> exact hK _ hC)); simp only [Act.put, List.setIfInBounds_toArray, List.set_cons_zero, List.set_cons_succ]))
                refine qN ?_
                intro w' hw'
                have HRd9 := Lib.hid (HRd8.out.only hw'.only (by simp) (by simp))
                have HRf9 := Lib.hid (HRf8.out.only hw'.only (by simp) (by simp))
                have HO9 := Lib.hid (HO8.out.then hw'.only)
                clear HRd8 HRf8 HO8 fA hw'
                go_wp2_with fail
                go_roundw
                case rel => exact ⟨k + 1, by omega, by go_num, _, HRd9, HRf9, HO9⟩
                case measure => simp [intOf]; omega
              · exact absurd HR0.out hR0
            · have HR0 := Lib.hid hR0
              have HRd4 := Lib.hid hRd
              clear hR0 hRd
              have tok : True := trivial
              have tok2 : True := trivial
              go_wp2_with (first | (clear tok; refine al64 rfl rfl ?_; rintro g5 w5 b5 o5 l5) | (clear tok2; refine sr64 (y := z64) b5 rfl rfl rfl rfl ?_; rintro w6 b6 o6 l6; have o46 := Only.own o5 o6 l5; have hcz6 : w6.cell? ⟨b', off + k, none⟩ = some (.int .i64 z) := (o46.cell (p := ⟨b', off + k, none⟩) (World.block_lt_of_cell? _ _ hcz4) (by simp)).trans hcz4))
              have HRf6 := Lib.hid (HRf4.out.only o46 (by simp) (by simp))
              have HO6 := Lib.hid (HO4.out.then o46)
              clear o5 o6 b5 hcz4 hcz6 HRf4 HO4 HRd4 o46
              refine (refBTake_any _ g b cc (bitsIn p (nBits p)) at_ HRf6.out z R HR.out).mono ?_
              rintro e w7 ⟨hcase, o7⟩
              rcases hcase with ⟨hR0, _, _⟩ | ⟨_, rfl, _, _⟩
              · exact absurd hR0 HR0.out
              · have b7 := b6.only o7 (by simp; omega)
                have HO7 := Lib.hid (HO6.out.first o7 (by simp; omega))
                have hnq := neqx z64
                have hrn : (R.1 != 0) = true := by have := HR0.out; simpa using this
                clear o7 b6 HRf6 HO6
                have tok : True := trivial
                have tok2 : True := trivial
                have tok3 : True := trivial
                have tok4 : True := trivial
                go_wp2_with (first | (clear tok; refine al64 rfl rfl ?_; rintro g71 w71 b71 o71 l71) | (clear tok2; refine sr64 (y := z64) b71 rfl rfl rfl rfl ?_; rintro w8 b8 o8 l8; have o78 := Only.own o71 o8 l71; have bx8 := b7.only o78 (by simp)) | (clear tok3; refine ld64 (x := z64) bx8 rfl rfl rfl ?_) | (clear tok4; refine ld64 (x := z64) b8 rfl rfl rfl ?_))
                have HO8 := Lib.hid (HO7.out.then o78)
                clear hnq o71 o8 b71 b7 bx8 b8 o78 HO7 hrn
                refine (takeNil_any _ 0).mono ?_
                rintro e w20 ⟨rfl, o20⟩
                have ho20 := (HO8.out).then o20
                clear o20
                have tok : True := trivial
                have tok2 : True := trivial
                go_wp2_with (first | (clear tok; refine al64 rfl rfl ?_; rintro g21 w21 b21 o21 l21) | (clear tok2; refine sr64 (y := z64) b21 rfl rfl rfl rfl ?_; rintro w22 b22 o22 l22))
                have ho22 := ho20.then (Only.own o21 o22 l21)
                clear o21 o22 b21 ho20
                refine (awake_any _).mono ?_
                rintro e w23 ⟨rfl, o23⟩
                have b23 := b22.only o23 (by simp)
                have ho23 := ho22.then o23
                clear o23 b22 ho22
                have hq := eqlz
                have tok : True := trivial
                have tok2 : True := trivial
                go_wp2_with (first | (clear tok; refine gld64 (x := z64) b23 rfl rfl rfl ?_) | (clear tok2; refine bld64 rfl rfl ?_))
                go_ret
                exact ⟨rfl, ho23⟩
          · have hdk : (t.length : Int) ≤ (k : Int) := by omega
            go_wp2_with fail
            refine (takeNil_any _ 0).mono ?_
            rintro e w20 ⟨rfl, o20⟩
            have ho20 := (HO1.out).then o20
            clear o20
            have tok : True := trivial
            have tok2 : True := trivial
            go_wp2_with (first | (clear tok; refine al64 rfl rfl ?_; rintro g21 w21 b21 o21 l21) | (clear tok2; refine sr64 (y := z64) b21 rfl rfl rfl rfl ?_; rintro w22 b22 o22 l22))
            have ho22 := ho20.then (Only.own o21 o22 l21)
            clear o21 o22 b21 ho20
            refine (awake_any _).mono ?_
            rintro e w23 ⟨rfl, o23⟩
            have b23 := b22.only o23 (by simp)
            have ho23 := ho22.then o23
            clear o23 b22 ho22
            have hq := eqlz
            have tok : True := trivial
            have tok2 : True := trivial
            go_wp2_with (first | (clear tok; refine gld64 (x := z64) b23 rfl rfl rfl ?_) | (clear tok2; refine bld64 rfl rfl ?_))
            go_ret
            exact ⟨rfl, ho23⟩
    · have hd1 : decide ((50 : Int) < (t.length : Int)) = true := decide_eq_true (by omega)
      go_wp2_with fail
      go_ret
      exact ⟨rfl, Only.refl _ _⟩
  · have hd0 : decide ((500 : Int) < (p.length : Int)) = true := decide_eq_true (by omega)
    go_wp2_with fail
    go_ret
    exact ⟨rfl, Only.refl _ _⟩
end Go.Proofs.Ytkojnmphgdlmdaa.blockTakes
