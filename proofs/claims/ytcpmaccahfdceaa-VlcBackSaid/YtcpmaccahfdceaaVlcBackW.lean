/- Proved: VlcBack returns true for all its arguments, which read afterwards as before. No condition. -/
import Derived.Test.YtcpmaccahfdceaaVr
import Derived.Test.YtcpmaccahfdceaaVu
import Derived.Test.YtcpmaccahfdceaaRow
namespace Go.Proofs.Ytcpmaccahfdceaa.vlcBack
open Go.ChangeShapes Go.WideShapes Go.ChangeAt Go.RowKit bt

/-- The code of number i: unsigned and signed by turns. -/
def item (i : Nat) (v : Int) : List Bool := if i % 2 = 0 then uCode v else sCode v
def itemErr (i : Nat) (v : Int) : Int := if i % 2 = 0 then uPutErr v else sPutErr v
/-- The codes of the first k numbers. -/
def backTo (l : List Int) : Nat → List Bool
  | 0 => []
  | k + 1 => backTo l k ++ item k (l.getD k 0)
theorem item_le (i : Nat) (v : Int) : (item i v).length ≤ 31 := by unfold item; split; exact uCode_le v; exact sCode_le v
theorem backTo_le (l : List Int) (k : Nat) : (backTo l k).length ≤ 31 * k := by
  induction k with
  | zero => simp [backTo]
  | succ k ih => have := item_le k (l.getD k 0); simp only [backTo, List.length_append]; omega
theorem backTo_more (l : List Int) (k j : Nat) : ∃ rest, backTo l (k + j) = backTo l k ++ rest := by
  induction j with
  | zero => exact ⟨[], by simp⟩
  | succ j ih => obtain ⟨r, h⟩ := ih; exact ⟨r ++ item (k + j) (l.getD (k + j) 0), by rw [← Nat.add_assoc]; simp only [backTo]; rw [h, List.append_assoc]⟩
theorem backTo_drop (l : List Int) (k n : Nat) (h : k < n) : ∃ rest, (backTo l n).drop (backTo l k).length = item k (l.getD k 0) ++ rest := by
  obtain ⟨rest, hr⟩ := backTo_more l (k + 1) (n - (k + 1))
  rw [show k + 1 + (n - (k + 1)) = n from by omega] at hr
  refine ⟨rest, ?_⟩
  rw [hr]
  simp only [backTo]
  rw [List.append_assoc, List.drop_left]

set_option maxRecDepth 100000 in
set_option maxHeartbeats 8000000 in
theorem walk (w : World) (A : Option Addr) (c : Nat) (l : List Int) (hr : Reads w A 1 l.length (l.map (Value.int .i64))) (hm : l.length ≤ maxLen) (hb : ∀ z ∈ l, -9223372036854775808 ≤ z ∧ z ≤ 9223372036854775807) :
    Calls Try.prog 14 #[.slice A l.length c] w fun e w' => e = .returned (.bool true) ∧ Only [] w w' := by
  unfold maxLen at hm
  by_cases hn : l.length ≤ 200
  · have hd0 : decide ((200 : Int) < (l.length : Int)) = false := by simp; omega
    have Hr := Lib.hid hr
    have Hb := Lib.hid hb
    clear hr hb
    go_enter Try.func14, Try.ntmps14
    go_wp2_with fail
    refine (newWriter_any _).mono ?_
    rintro e w1 ⟨rfl, hw1, ho1⟩
    go_wp2_with fail
    clear hd0
    go_loopw [4, 5] (fun s i wr => ∃ k : Nat, k ≤ l.length ∧ i = .int .i64 k ∧ s = .int .i64 ((backTo l k).length : Int) ∧ ∃ F, WriterIs wr w.heap.size F (backTo l k) ∧ Hid (∀ x ∈ F, w.heap.size ≤ x) ∧ Only [] w wr) (fun _ i _ => l.length - (intOf i).toNat)
    case atStart => exact ⟨0, Nat.zero_le _, rfl, rfl, _, hw1, show ∀ _, _ by simp, ho1⟩
    case round =>
      obtain ⟨k, hk, rfl, rfl, F, hw, HF, ho⟩ := hrel
      have hbl := backTo_le l k
      by_cases hlt : k < l.length
      · obtain ⟨v, hv⟩ : ∃ v, l[k]? = some v := ⟨_, List.getElem?_eq_getElem hlt⟩
        have hvr := Hb.out v (List.mem_of_getElem? hv)
        have hgd : l.getD k 0 = v := by rw [List.getD_eq_getElem?_getD, hv]; rfl
        obtain ⟨b, off, rfl, hc⟩ := (Hr.out.then ho).plain (by omega) (by omega)
        have hcv := hc k (.int .i64 v) (by simp [hv])
        have hki : (k : Int) < (l.length : Int) := by omega
        have hbw : b < w.heap.size := Hr.out.lt (by omega) (by omega) _ rfl
        have hbF : b ∉ F := fun h => by have := HF.out b h; omega
        have Hgd := Lib.hid hgd
        clear hc hv hgd
        by_cases h2 : k % 2 = 0
        · have hk2 : ((k : Int) % 2 == 0) = true := by simp; omega
          have hk3 : ((k : Int) % 2 == 1) = false := beq_eq_false_iff_ne.2 (by omega)
          have hit : backTo l (k + 1) = backTo l k ++ uCode v := by simp only [backTo]; rw [Hgd.out]; unfold item; rw [if_pos h2]
          have hul := uCode_length v
          have hu1 := uCode_le v
          have hub : 0 ≤ uBits v ∧ uBits v ≤ 31 := by omega
          have Hit := Lib.hid hit
          have Hul := Lib.hid hul
          clear hit hul h2
          go_wp2_with fail
          refine (putU_any _ _ _ _ _ hw hvr (by omega)).mono ?_
          rintro e w2 ⟨rfl, F2, hw2, ho2, hf2⟩
          rw [← Hit.out] at hw2
          have hcv2 : w2.cell? ⟨b, off + k, none⟩ = some (.int .i64 v) := (ho2.cell (p := ⟨b, off + k, none⟩) (World.block_lt_of_cell? _ _ hcv) hbF).trans hcv
          have hlen : ((backTo l (k + 1)).length : Int) = ((backTo l k).length : Int) + uBits v := by rw [Hit.out, List.length_append, ← Hul.out]; omega
          have Hlen := Lib.hid hlen
          have hne : (((backTo l (k + 1)).length : Int) != ((backTo l k).length : Int) + uBits v) = false := by rw [bne_eq_false_iff_eq]; exact hlen
          clear hcv hlen
          have fin : Only [] w w2 := ho.first ho2 HF.out
          have finF : ∀ x ∈ F2, w.heap.size ≤ x := by
            intro y hy
            rcases hf2 y hy with h | h
            · exact HF.out y h
            · have := ho.size; omega
          have HfinF := Lib.hid finF
          clear finF
          go_wp2_with fail
          refine (vlcBits_any _ _ hvr).mono ?_
          rintro e w3 ⟨rfl, rfl⟩
          by_cases hu : uPutErr v = 0
          · have hub0 : (uPutErr v == 0) = true := by simpa using hu
            clear hu
            go_wp2_with fail
            refine (refMayU_any _ _).mono ?_
            rintro e w3 ⟨rfl, rfl⟩
            go_wp2_with fail
            refine (len_any _ _ _ _ hw2).mono ?_
            rintro e w3 ⟨rfl, rfl⟩
            go_wp2_with fail
            go_roundw
            case rel => exact ⟨k + 1, by omega, by go_num, by rw [Hlen.out], F2, hw2, HfinF, fin⟩
            case measure => simp [intOf]; omega
          · have hub0 : (uPutErr v == 0) = false := by simpa using hu
            clear hu
            go_wp2_with fail
            refine (refMayU_any _ _).mono ?_
            rintro e w3 ⟨rfl, rfl⟩
            go_wp2_with fail
            refine (len_any _ _ _ _ hw2).mono ?_
            rintro e w3 ⟨rfl, rfl⟩
            go_wp2_with fail
            go_roundw
            case rel => exact ⟨k + 1, by omega, by go_num, by rw [Hlen.out], F2, hw2, HfinF, fin⟩
            case measure => simp [intOf]; omega
        · have hk2 : ((k : Int) % 2 == 0) = false := beq_eq_false_iff_ne.2 (by omega)
          have hk3 : ((k : Int) % 2 == 1) = true := beq_iff_eq.2 (by omega)
          have hit : backTo l (k + 1) = backTo l k ++ sCode v := by simp only [backTo]; rw [Hgd.out]; unfold item; rw [if_neg h2]
          have hul := sCode_length v
          have hu1 := sCode_le v
          have hub : 0 ≤ sBits v ∧ sBits v ≤ 31 := by omega
          have Hit := Lib.hid hit
          have Hul := Lib.hid hul
          clear hit hul h2
          go_wp2_with fail
          refine (putS_any _ _ _ _ _ hw hvr (by omega)).mono ?_
          rintro e w2 ⟨rfl, F2, hw2, ho2, hf2⟩
          rw [← Hit.out] at hw2
          have hcv2 : w2.cell? ⟨b, off + k, none⟩ = some (.int .i64 v) := (ho2.cell (p := ⟨b, off + k, none⟩) (World.block_lt_of_cell? _ _ hcv) hbF).trans hcv
          have hlen : ((backTo l (k + 1)).length : Int) = ((backTo l k).length : Int) + sBits v := by rw [Hit.out, List.length_append, ← Hul.out]; omega
          have Hlen := Lib.hid hlen
          have hne : (((backTo l (k + 1)).length : Int) != ((backTo l k).length : Int) + sBits v) = false := by rw [bne_eq_false_iff_eq]; exact hlen
          clear hcv hlen
          have fin : Only [] w w2 := ho.first ho2 HF.out
          have finF : ∀ x ∈ F2, w.heap.size ≤ x := by
            intro y hy
            rcases hf2 y hy with h | h
            · exact HF.out y h
            · have := ho.size; omega
          have HfinF := Lib.hid finF
          clear finF
          go_wp2_with fail
          refine (vlcSBits_any _ _ hvr).mono ?_
          rintro e w3 ⟨rfl, rfl⟩
          by_cases hu : sPutErr v = 0
          · have hub0 : (sPutErr v == 0) = true := by simpa using hu
            clear hu
            go_wp2_with fail
            refine (refMayS_any _ _).mono ?_
            rintro e w3 ⟨rfl, rfl⟩
            go_wp2_with fail
            refine (len_any _ _ _ _ hw2).mono ?_
            rintro e w3 ⟨rfl, rfl⟩
            go_wp2_with fail
            go_roundw
            case rel => exact ⟨k + 1, by omega, by go_num, by rw [Hlen.out], F2, hw2, HfinF, fin⟩
            case measure => simp [intOf]; omega
          · have hub0 : (sPutErr v == 0) = false := by simpa using hu
            clear hu
            go_wp2_with fail
            refine (refMayS_any _ _).mono ?_
            rintro e w3 ⟨rfl, rfl⟩
            go_wp2_with fail
            refine (len_any _ _ _ _ hw2).mono ?_
            rintro e w3 ⟨rfl, rfl⟩
            go_wp2_with fail
            go_roundw
            case rel => exact ⟨k + 1, by omega, by go_num, by rw [Hlen.out], F2, hw2, HfinF, fin⟩
            case measure => simp [intOf]; omega
      · obtain rfl : k = l.length := by omega
        obtain ⟨B, hB⟩ : ∃ B, B = backTo l l.length := ⟨_, rfl⟩
        rw [← hB] at hw hbl ⊢
        have HB := Lib.hid hB
        clear hB
        go_wp2_with fail
        refine (payload_any _ _ _ _ hw (by omega)).mono ?_
        rintro e w3 ⟨rfl, hp3, ho3⟩
        go_wp2_with fail
        refine (newReader_payload _ _ _ _ (payload_reads hp3) (by omega)).mono ?_
        rintro e w4 ⟨rfl, hr4, ho4⟩
        have ho04 := (ho.then ho3).then ho4
        have hg3 : w.heap.size ≤ w3.heap.size := (ho.then ho3).size
        go_wp2_with fail
        clear hp3 ho4 ho3 hw HF
        obtain ⟨wo, hwo⟩ : ∃ wo : World, wo = wr := ⟨_, rfl⟩
        subst hwo
        go_loopw [9] (fun i wr => ∃ k : Nat, k ≤ l.length ∧ i = .int .i64 k ∧ ReaderIs wr (w3.heap.size + 1) w3.heap.size (payload B) B.length (backTo l k).length ∧ Only [] w wr) (fun i _ => l.length - (intOf i).toNat)
        case atStart => exact ⟨0, Nat.zero_le _, rfl, hr4, ho04⟩
        case round =>
          obtain ⟨k, hk', rfl, hrd, ho⟩ := hrel
          by_cases hlt : k < l.length
          · obtain ⟨v, hv⟩ : ∃ v, l[k]? = some v := ⟨_, List.getElem?_eq_getElem hlt⟩
            have hgd : l.getD k 0 = v := by rw [List.getD_eq_getElem?_getD, hv]; rfl
            obtain ⟨b, off, rfl, hc⟩ := (Hr.out.then ho).plain (by omega) (by omega)
            have hcv := hc k (.int .i64 v) (by simp [hv])
            have hki : (k : Int) < (l.length : Int) := by omega
            have hbw : b < w.heap.size := Hr.out.lt (by omega) (by omega) _ rfl
            obtain ⟨rest, hrest⟩ := backTo_drop l k l.length hlt
            rw [hgd, ← HB.out] at hrest
            have Hgd := Lib.hid hgd
            have Hrest := Lib.hid hrest
            have hdrop : (bitsIn (payload B) B.length).drop (backTo l k).length = item k v ++ rest := by rw [bitsIn_payload]; exact hrest
            have Hdrop := Lib.hid hdrop
            have hstep : backTo l (k + 1) = backTo l k ++ item k v := by simp only [backTo]; rw [hgd]
            have Hstep := Lib.hid hstep
            have hvv : (v != v) = false := by simp
            clear hc hv hgd hrest hdrop hstep
            by_cases h2 : k % 2 = 0
            · have hk2 : ((k : Int) % 2 == 0) = true := by simp; omega
              have hk3 : ((k : Int) % 2 == 1) = false := beq_eq_false_iff_ne.2 (by omega)
              by_cases hu : uPutErr v = 0
              · have hub0 : (uPutErr v == 0) = true := by simpa using hu
                obtain ⟨hv0, hv1⟩ := uPut_zero hu
                have hcode : item k v = code v.toNat := by unfold item uCode; rw [if_pos h2, if_pos hu]
                have Hcode := Lib.hid hcode
                clear hcode hu h2
                go_wp2_with fail
                refine (refMayU_any _ _).mono ?_
                rintro e w5 ⟨rfl, rfl⟩
                go_wp2_with fail
                refine (takeU_any _ _ _ _ _ _ hrd).mono ?_
                rintro e w5 ⟨rfl, hrd5, ho5⟩
                rw [Hdrop.out, Hcode.out, uErr_code (by omega), uVal_code (by omega), Int.toNat_of_nonneg hv0]
                rw [Hdrop.out, Hcode.out, uLen_code (by omega)] at hrd5
                have hcv5 : w5.cell? ⟨b, off + k, none⟩ = some (.int .i64 v) := (ho5.cell (p := ⟨b, off + k, none⟩) (World.block_lt_of_cell? _ _ hcv) (by simp; omega)).trans hcv
                clear hcv
                have hoB : Only [] w w5 := ho.first ho5 (by simp; omega)
                go_wp2_with fail
                go_roundw
                case rel => exact ⟨k + 1, by omega, by go_num, by rw [Hstep.out, List.length_append, Hcode.out]; exact hrd5, hoB⟩
                case measure => simp [intOf]; omega
              · have hub0 : (uPutErr v == 0) = false := by simpa using hu
                have hcode : item k v = [] := by unfold item uCode; rw [if_pos h2, if_neg hu]
                have Hcode := Lib.hid hcode
                clear hcode hu h2
                go_wp2_with fail
                refine (refMayU_any _ _).mono ?_
                rintro e w5 ⟨rfl, rfl⟩
                go_wp2_with fail
                go_roundw
                case rel => exact ⟨k + 1, by omega, by go_num, by rw [Hstep.out, Hcode.out, List.append_nil]; exact hrd, ho⟩
                case measure => simp [intOf]; omega
            · have hk2 : ((k : Int) % 2 == 0) = false := beq_eq_false_iff_ne.2 (by omega)
              have hk3 : ((k : Int) % 2 == 1) = true := beq_iff_eq.2 (by omega)
              by_cases hu : sPutErr v = 0
              · have hub0 : (sPutErr v == 0) = true := by simpa using hu
                obtain ⟨hv0, hv1⟩ := sPut_zero hu
                have hfl := fold_le hv0 hv1
                have hcode : item k v = code (fold v) := by unfold item sCode; rw [if_neg h2, if_pos hu]
                have Hcode := Lib.hid hcode
                clear hcode hu h2
                go_wp2_with fail
                refine (refMayS_any _ _).mono ?_
                rintro e w5 ⟨rfl, rfl⟩
                go_wp2_with fail
                refine (takeS_any _ _ _ _ _ _ hrd).mono ?_
                rintro e w5 ⟨rfl, hrd5, ho5⟩
                rw [Hdrop.out, Hcode.out, uErr_code hfl, sTake_eq, uVal_code hfl, sVal_fold]
                rw [Hdrop.out, Hcode.out, uLen_code hfl] at hrd5
                have hcv5 : w5.cell? ⟨b, off + k, none⟩ = some (.int .i64 v) := (ho5.cell (p := ⟨b, off + k, none⟩) (World.block_lt_of_cell? _ _ hcv) (by simp; omega)).trans hcv
                clear hcv
                have hoB : Only [] w w5 := ho.first ho5 (by simp; omega)
                go_wp2_with fail
                go_roundw
                case rel => exact ⟨k + 1, by omega, by go_num, by rw [Hstep.out, List.length_append, Hcode.out]; exact hrd5, hoB⟩
                case measure => simp [intOf]; omega
              · have hub0 : (sPutErr v == 0) = false := by simpa using hu
                have hcode : item k v = [] := by unfold item sCode; rw [if_neg h2, if_neg hu]
                have Hcode := Lib.hid hcode
                clear hcode hu h2
                go_wp2_with fail
                refine (refMayS_any _ _).mono ?_
                rintro e w5 ⟨rfl, rfl⟩
                go_wp2_with fail
                go_roundw
                case rel => exact ⟨k + 1, by omega, by go_num, by rw [Hstep.out, Hcode.out, List.append_nil]; exact hrd, ho⟩
                case measure => simp [intOf]; omega
          · obtain rfl : k = l.length := by omega
            rw [← HB.out] at hrd
            go_wp2_with fail
            refine (awakeV_any _).mono ?_
            rintro e w6 ⟨rfl, ho6⟩
            have hr6 := hrd.only ho6 (by simp) (by simp)
            go_wp2_with fail
            refine (left_any _ _ _ _ _ _ hr6).mono ?_
            rintro e w7 ⟨rfl, rfl⟩
            go_wp2_with fail
            go_ret
            refine ⟨?_, (ho.then ho6).drew⟩
            simp
  · have hd0 : decide ((200 : Int) < (l.length : Int)) = true := by simp; omega
    clear hn
    go_enter Try.func14, Try.ntmps14
    go_wp2
    go_ret
    exact ⟨rfl, Only.refl _ _⟩
end Go.Proofs.Ytcpmaccahfdceaa.vlcBack
